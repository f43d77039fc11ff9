/- Speakers: new, told again, what they send, what they are told. -/
import Derived.Test.YtglfecmdoekabaaG6
namespace Go.Proofs.Ytglfecmdoekabaa
open Go Go.Am
set_option linter.unusedVariables false
set_option linter.unusedSimpArgs false
theorem errIf_pos {p : Prop} [Decidable p] (h : p) : errIf p = 0 := if_pos h
theorem errIf_neg {p : Prop} [Decidable p] (h : ¬ p) : errIf p = 1 := if_neg h
theorem valS_t {s : Spk} : (valS s != 0) = true ↔ ¬ spkOk s := by
  by_cases h : spkOk s <;> simp [valS, errIf, h]
theorem valS_f {s : Spk} : (valS s != 0) = false ↔ spkOk s := by
  by_cases h : spkOk s <;> simp [valS, errIf, h]
theorem valL_t {s : Lsn} : (valL s != 0) = true ↔ ¬ lsnOk s := by
  by_cases h : lsnOk s <;> simp [valL, errIf, h]
theorem valL_f {s : Lsn} : (valL s != 0) = false ↔ lsnOk s := by
  by_cases h : lsnOk s <;> simp [valL, errIf, h]
theorem pureBLs_one {es : List AV} (h : pureBL es = true) : pureBLs [es] = true := by rw [pureBLs, h]; rfl
theorem srcs_len {m : Int} {l : List Int} (h : fltErr m l = 0) : l.length ≤ 99 := by
  unfold fltErr at h
  split at h
  · cases h
  split at h
  · cases h
  rename_i hr
  split at h
  · cases h
  rename_i ha
  have hr := Classical.not_not.mp hr
  have ha := Classical.not_not.mp ha
  have hp : l.Pairwise fun x y => id x < id y := pw_adj (key := id) fun j x y hx hy => ascI_iff.mp ha j x y hx hy
  exact nodup_len 99 l (hp.imp fun h => Int.ne_of_lt h) fun x hx => by have := hr x hx; omega
theorem okItms_of {n : Int} {l : List Itm} (h : itmsOk n l) : okItms l := ⟨by have := itms_len h; omega, fun x hx => by have := srcs_len (h.1 x hx).2.2; omega⟩
theorem set_same {α : Type} {l : List α} {i : Nat} {x : α} (h : l[i]? = some x) : l.set i x = l := by
  have hi := lt_of_get h
  rw [List.getElem?_eq_getElem hi] at h
  rw [← Option.some.inj h]; exact List.set_getElem_self hi
theorem orI_two (a b : Int) : orI [a, b] = if a ≠ 0 then a else b := by
  by_cases h : a = 0
  · by_cases h2 : b = 0 <;> simp [orI, h, h2]
  · simp [orI, h]
theorem without_zero {n : Int} {l : List Itm} (h : itmsOk n l) : Go.Proofs.Ytglfecmdoekabaa.without 0 l = l := by
  rw [Go.Proofs.Ytglfecmdoekabaa.without, List.filter_eq_self]
  intro x hx
  have := (h.1 x hx).2.1
  simp; omega
def new_a (router : Int) (epoch : Int) (peers : (List Int)) : Prop := okL [.int router, .int epoch, .sl 1 (peers.map AV.int) false]
def new_s : Nat → Type
  | _ => Unit
def new_e (r : Spk × Int) : AV := .tup [Spk.v r.1, .int r.2]
def new_vc (router : Int) (epoch : Int) (peers : (List Int)) (r0 : Spk × Int) : Prop :=
 ∃ h1 : peers.length ≤ 1000000,
 Ch (fresh_h peers h1) [] 80
 (Cl (valS_c (⟨router, epoch, 0, [], fresh peers⟩ : Spk))
 (ck (pureBLs [((fresh peers).map Per.v)])
 (br ((valS (⟨router, epoch, 0, [], fresh peers⟩ : Spk)) != 0)
 (Rf (new_e ((⟨0, 0, 0, [], []⟩ : Spk), 1)) (((⟨0, 0, 0, [], []⟩ : Spk), 1) = r0))
 (Rf ((fresh peers).map Per.v) (Rf (new_e ((⟨router, epoch, 0, [], fresh peers⟩ : Spk), 0)) (((⟨router, epoch, 0, [], fresh peers⟩ : Spk), 0) = r0))))))
theorem new_eq (router : Int) (epoch : Int) (peers : (List Int)) (r0 : Spk × Int) : mxP Try.prog 28 [.int router, .int epoch, .sl 1 (peers.map AV.int) false] (.a [(.a [.k, .k, .k, (.s 4), (.s 3)]), .k]) new_e ((.req 80 (peers.length ≤ 1000000) fun h1 =>
 (.callH [] (fresh_h peers h1)
 (.callP (valS_c (⟨router, epoch, 0, [], fresh peers⟩ : Spk))
 (.br 192 (.ret ((⟨0, 0, 0, [], []⟩ : Spk), 1))
 (.cmdL (.frzE 80 ((fresh peers).map Per.v) (pureBL_map (fun _ => rfl) (fresh peers))) (.ret ((⟨router, epoch, 0, [], fresh peers⟩ : Spk), 0))))))) : An Try.prog new_s (Spk × Int)) r0 = new_vc router epoch peers r0 := by kernel_rfl
theorem new_ok (router : Int) (epoch : Int) (peers : (List Int)) (r0 : Spk × Int) (h : new_vc router epoch peers r0) : PSpec Try.prog 28 [.int router, .int epoch, .sl 1 (peers.map AV.int) false] (new_e r0) := by
  have e := new_eq router epoch peers r0
  rw [← e] at h
  exact mxP_ok (enc := new_e) h (AV.pureB_ok rfl)
theorem new_p (r k : Int) (p : List Int) (h : p.length ≤ 1000000) (ok : new_a r k p) : new_vc r k p (new r k p) := by
  simp only [new_vc, vcU, rfU, List.length_map]
  refine ⟨h, pureBLs_one (pureBL_map (fun _ => rfl) _), fun e => ?_, fun e => ?_⟩
  · have e := valS_t.mp e
    exact (if_neg e).symm
  · have e := valS_f.mp e
    exact (if_pos e).symm
def new_c (router : Int) (epoch : Int) (peers : (List Int)) (h : peers.length ≤ 1000000) : PC Try.prog := ⟨28, [.k, .k, (.s 1)], [.int router, .int epoch, .sl 1 (peers.map AV.int) false], new_e (Go.Proofs.Ytglfecmdoekabaa.new router epoch peers), PSpec.of_ok fun ok => new_ok router epoch peers _ (new_p router epoch peers h ok), fnB_ok (by kernel_rfl)⟩
def sendF_a (s : Spk) (to_ : Int) : Prop := okL [.agg [.int s.router, .int s.epoch, .int s.last, .sl 4 (s.items.map Itm.v) false, .sl 3 (s.peers.map Per.v) false], .int to_]
def sendF_n0 (s : Spk) (to_ : Int) (t0 : Int × Int × (List Sig)) : NF := ⟨[(1, .k, .int to_), (2, .k, .ref 0 0), (7, .k, .int (posP s.peers to_ : Int)), (9, .k, .vec 1), (10, .k, .int t0.1), (36, .k, .sl 4 (s.items.map Itm.v) false), (37, .k, .int ((s.items.map Itm.v).length : Int)), (38, .k, .int t0.2.1)], [.box (.agg [.int s.router, .int s.epoch, .int s.last, .sl 4 (s.items.map Itm.v) false, .sl 3 (s.peers.map Per.v) false]), .vec 10 (t0.2.2.map Sig.v) (pureBL_map (fun _ => rfl) t0.2.2)]⟩
def sendF_s : Nat → Type
  | 0 => Int × Int × (List Sig)
  | _ => Unit
def sendF_e (r : (List Sig) × Int) : AV := .tup [.sl 10 (r.1.map Sig.v) false, .int r.2]
def sendF_vc (s : Spk) (to_ : Int) (I0 : (Int × Int × (List Sig)) → Prop) (m0 : (Int × Int × (List Sig)) → Nat) (r0 : (List Sig) × Int) : Prop :=
 Cl (valS_c s)
 (br ((valS s) != 0)
 (Rf (sendF_e ([], valS s)) (([], valS s) = r0))
 (∃ h1 : s.peers.Pairwise fun x y => x.router < y.router,
 ∃ h2 : s.peers.length ≤ 1000000,
 Cl (peer_c s to_ h1 h2)
 (br (!(decide (hitP s.peers to_)))
 (Rf (sendF_e ([], 4)) (([], 4) = r0))
 (Nf (sendF_n0 s to_ (0, 0, [(⟨1, s.router, to_, s.epoch, s.last, 0, 0, 0, 0, []⟩ : Sig)])) [0, 416] (I0 (0, 0, [(⟨1, s.router, to_, s.epoch, s.last, 0, 0, 0, 0, []⟩ : Sig)])) ∧ ∀ t0 : Int × Int × (List Sig), I0 t0 →
 br (decide (t0.2.1 < ((s.items.map Itm.v).length : Int)))
 (Rf (s.items.map Itm.v) (ck (decide (0 ≤ t0.2.1)) (ck (decide (t0.2.1 < (s.items.length : Int)))
 (∀ x3, s.items[t0.2.1.toNat]? = some x3 →
 Rf (s.peers.map Per.v) (ck (decide (0 ≤ (posP s.peers to_ : Int))) (ck (decide ((posP s.peers to_ : Int) < (s.peers.length : Int)))
 (∀ x4, s.peers[(posP s.peers to_ : Int).toNat]? = some x4 →
 br (decide (x4.acked < x3.ver))
 (∃ h5 : (⟨x3.mode, x3.srcs⟩ : Flt).srcs.length ≤ 1000000,
 Cl (filtered_c (⟨x3.mode, x3.srcs⟩ : Flt) h5)
 (Rf (α := List AV) (t0.2.2.map Sig.v) (Rf (α := List AV) [.agg [.int 2, .int s.router, .int to_, .int s.epoch, .int x3.ver, .int t0.1, .int 0, .int x3.grp, .int x3.mode, .sl 1 (x3.srcs.map AV.int) false]]
 (ck (decide (t0.2.2.length + 1 ≤ 1000000))
 (Nf (sendF_n0 s to_ (x3.ver, W (t0.2.1 + 1), t0.2.2 ++ [(⟨2, s.router, to_, s.epoch, x3.ver, t0.1, 0, x3.grp, x3.mode, x3.srcs⟩ : Sig)])) [0, 482] (I0 (x3.ver, W (t0.2.1 + 1), t0.2.2 ++ [(⟨2, s.router, to_, s.epoch, x3.ver, t0.1, 0, x3.grp, x3.mode, x3.srcs⟩ : Sig)]) ∧ m0 (x3.ver, W (t0.2.1 + 1), t0.2.2 ++ [(⟨2, s.router, to_, s.epoch, x3.ver, t0.1, 0, x3.grp, x3.mode, x3.srcs⟩ : Sig)]) < m0 t0))))))
 (Nf (sendF_n0 s to_ (x3.ver, W (t0.2.1 + 1), t0.2.2)) [0, 1] (I0 (x3.ver, W (t0.2.1 + 1), t0.2.2) ∧ m0 (x3.ver, W (t0.2.1 + 1), t0.2.2) < m0 t0)))))))))
 (Rf (t0.2.2.map Sig.v) (Rf (sendF_e (t0.2.2, 0)) ((t0.2.2, 0) = r0)))))))
theorem sendF_eq (s : Spk) (to_ : Int) (I0 : (Int × Int × (List Sig)) → Prop) (m0 : (Int × Int × (List Sig)) → Nat) (r0 : (List Sig) × Int) : mxP Try.prog 29 [.agg [.int s.router, .int s.epoch, .int s.last, .sl 4 (s.items.map Itm.v) false, .sl 3 (s.peers.map Per.v) false], .int to_] (.a [(.s 10), .k]) sendF_e ((.callP (valS_c s)
 (.br 128 (.ret ([], valS s))
 (.req 160 (s.peers.Pairwise fun x y => x.router < y.router) fun h1 =>
 (.req 160 (s.peers.length ≤ 1000000) fun h2 =>
 (.callP (peer_c s to_ h1 h2)
 (.br 288 (.ret ([], 4))
 (.own 416 (.cmdL (.wkB 416 (.a [.k, .k, .k, .k, .k, .k, .k, .k, .k, (.s 1)])) (.loop 0 (sendF_n0 s to_) (I0) (m0) ((0, 0, [(⟨1, s.router, to_, s.epoch, s.last, 0, 0, 0, 0, []⟩ : Sig)]) : Int × Int × (List Sig)) [0, 416] fun (t0 : Int × Int × (List Sig)) =>
 (.br 18 (.el 18 Itm.v s.items fun x3 =>
 (.el 162 Per.v s.peers fun x4 =>
 (.br 226 (.req 434 ((⟨x3.mode, x3.srcs⟩ : Flt).srcs.length ≤ 1000000) fun h5 =>
 (.callP (filtered_c (⟨x3.mode, x3.srcs⟩ : Flt) h5)
 (.app 482 Sig.v t0.2.2 [(⟨2, s.router, to_, s.epoch, x3.ver, t0.1, 0, x3.grp, x3.mode, x3.srcs⟩ : Sig)]
 (.back 0 ((x3.ver, W (t0.2.1 + 1), t0.2.2 ++ [(⟨2, s.router, to_, s.epoch, x3.ver, t0.1, 0, x3.grp, x3.mode, x3.srcs⟩ : Sig)]) : Int × Int × (List Sig)) [0, 482]))))
 (.back 0 ((x3.ver, W (t0.2.1 + 1), t0.2.2) : Int × Int × (List Sig)) [0, 1]))))
 (.cmdL (.frzE 1 (t0.2.2.map Sig.v) (pureBL_map (fun _ => rfl) t0.2.2)) (.ret (t0.2.2, 0))))))))))))) : An Try.prog sendF_s ((List Sig) × Int)) r0 = sendF_vc s to_ I0 m0 r0 := by kernel_rfl
theorem sendF_ok (s : Spk) (to_ : Int) (I0 : (Int × Int × (List Sig)) → Prop) (m0 : (Int × Int × (List Sig)) → Nat) (r0 : (List Sig) × Int) (h : sendF_vc s to_ I0 m0 r0) : PSpec Try.prog 29 [.agg [.int s.router, .int s.epoch, .int s.last, .sl 4 (s.items.map Itm.v) false, .sl 3 (s.peers.map Per.v) false], .int to_] (sendF_e r0) := by
  have e := sendF_eq s to_ I0 m0 r0
  rw [← e] at h
  exact mxP_ok (enc := sendF_e) h (AV.pureB_ok rfl)
theorem sendF_p (s : Spk) (r : Int) (ok : sendF_a s r) : ∃ I0 m0, sendF_vc s r I0 m0 (send s r) := by
  simp only [sendF_a, okU, Blk.ok, plainV, List.length_map] at ok
  let ak := (s.peers.getD (posP s.peers r) ⟨0, 0, 0⟩).acked
  refine ⟨fun t => ∃ k : Nat, t.2.1 = k ∧ k ≤ s.items.length ∧ t.2.2.length ≤ k + 1 ∧ hello s r :: sendFrom s r ak 0 s.items = t.2.2 ++ sendFrom s r ak t.1 (s.items.drop k), fun t => s.items.length - t.2.1.toNat, ?_⟩
  simp only [sendF_vc, vcU, rfU, List.length_map]
  by_cases hs : spkOk s
  case neg => simp [send, valS, errIf, hs]
  refine ⟨fun e => by simp [valS, errIf, hs] at e, fun _ => ⟨hs.2.2.2.2.2.2, by have := hs.2.2.2.2.1; omega, fun e => ?_, fun e => ?_⟩⟩
  · have e : ¬ hitP s.peers r := by simpa using e
    rw [send, if_neg (not_not_intro hs), if_pos e]
  have e : hitP s.peers r := by simpa using e
  have fin : send s r = (hello s r :: sendFrom s r ak 0 s.items, 0) := by rw [send, if_neg (not_not_intro hs), if_neg (not_not_intro e)]
  have hil := itms_len hs.2.2.2.1
  refine ⟨⟨0, rfl, by omega, by simp, rfl⟩, ?_⟩
  rintro ⟨prev, _, acc⟩ ⟨k, rfl, hk, hal, h⟩
  simp only [Int.toNat_natCast] at *
  refine ⟨fun h1 => ⟨by omega, by omega, fun x hx => ⟨by omega, by have := e.1; omega, fun y hy => ?_⟩⟩, fun h1 => ?_⟩
  · have hy : ak = y.acked := by show (s.peers.getD (posP s.peers r) ⟨0, 0, 0⟩).acked = _; rw [getD_some hy]
    have hd : s.items.drop k = x :: s.items.drop (k + 1) := by
      have hkl := lt_of_get hx
      rw [List.drop_eq_getElem_cons hkl]
      rw [List.getElem?_eq_getElem hkl] at hx; rw [Option.some.inj hx]
    rw [hd, sendFrom] at h
    rw [W_succ (n := s.items.length) (by omega) (by omega)]
    have hsl := srcs_len (hs.2.2.2.1.1 x (mem_of_get hx)).2.2
    refine ⟨fun e3 => ⟨by show x.srcs.length ≤ _; omega, by omega, ⟨k + 1, rfl, by omega, by simp; omega, ?_⟩, by omega⟩, fun e3 => ⟨⟨k + 1, rfl, by omega, by omega, ?_⟩, by omega⟩⟩
    · rw [h, if_pos (by omega)]; simp [upd1]
    · rw [h, if_neg (by omega)]; simp
  · rw [List.drop_eq_nil_of_le (by omega), sendFrom, List.append_nil] at h
    rw [fin, h]

def send_c (s : Spk) (to_ : Int) : PC Try.prog := ⟨29, [(.a [.k, .k, .k, (.s 4), (.s 3)]), .k], [.agg [.int s.router, .int s.epoch, .int s.last, .sl 4 (s.items.map Itm.v) false, .sl 3 (s.peers.map Per.v) false], .int to_], sendF_e (send s to_), PSpec.of_ok fun ok => (sendF_p s to_ ok).elim fun I0 h => h.elim fun m0 h => sendF_ok s to_ I0 m0 _ h, fnB_ok (by kernel_rfl)⟩
end Go.Proofs.Ytglfecmdoekabaa
