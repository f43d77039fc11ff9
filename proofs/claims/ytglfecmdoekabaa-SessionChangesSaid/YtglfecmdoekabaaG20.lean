/- The reference of sessions: equality, signals, changes, wants. -/
import Derived.Test.YtglfecmdoekabaaG19
import Derived.Test.YtglfecmdoekabaaG17
namespace Go.Proofs.Ytglfecmdoekabaa
open Go Go.Am
set_option linter.unusedVariables false
set_option linter.unusedSimpArgs false
def inR5 (x lo hi : Int) : Bool := decide (lo ≤ x ∧ x ≤ hi)
/-! ### Equality -/
theorem eq_take {α : Type} {a b : List α} {k : Nat} {x y : α} (hx : a[k]? = some x) (hy : b[k]? = some y) (h : a.take k = b.take k) (e : x = y) : a.take (k + 1) = b.take (k + 1) := by
  subst e; rw [take_succ hx, take_succ hy, h]
theorem ne_of_get {α : Type} {a b : List α} {k : Nat} {x y : α} (hx : a[k]? = some x) (hy : b[k]? = some y) (e : x ≠ y) : a ≠ b := by
  rintro rfl; rw [hx] at hy; cases hy; exact e rfl
theorem nodec {p : Prop} [Decidable p] (h : ¬ p) : false = decide p := (decide_eq_false h).symm
theorem Sig.eq_iff {x y : Sig} : x = y ↔ x.kind = y.kind ∧ x.src = y.src ∧ x.dst = y.dst ∧ x.epoch = y.epoch ∧ x.ver = y.ver ∧ x.prev = y.prev ∧ x.pep = y.pep ∧ x.grp = y.grp ∧ x.mode = y.mode ∧ x.srcs = y.srcs := by cases x; cases y; simp
theorem Spk.eq_iff {x y : Spk} : x = y ↔ x.router = y.router ∧ x.epoch = y.epoch ∧ x.last = y.last ∧ x.items = y.items ∧ x.peers = y.peers := by cases x; cases y; simp
theorem Lsn.eq_iff {x y : Lsn} : x = y ↔ x.router = y.router ∧ x.epoch = y.epoch ∧ x.heard = y.heard := by cases x; cases y; simp
theorem Hrd.eq_iff {x y : Hrd} : x = y ↔ x.router = y.router ∧ x.epoch = y.epoch ∧ x.ver = y.ver ∧ x.items = y.items := by cases x; cases y; simp
theorem Per.eq_iff {x y : Per} : x = y ↔ x.router = y.router ∧ x.epoch = y.epoch ∧ x.acked = y.acked := by cases x; cases y; simp
def sameS_a (a : Spk) (b : Spk) : Prop := okL [.agg [.int a.router, .int a.epoch, .int a.last, .sl 4 (a.items.map Itm.v) false, .sl 3 (a.peers.map Per.v) false], .agg [.int b.router, .int b.epoch, .int b.last, .sl 4 (b.items.map Itm.v) false, .sl 3 (b.peers.map Per.v) false]]
def sameS_n0 (a : Spk) (b : Spk) (t0 : Bool) : NF := ⟨[(2, .k, .ref 0 0), (3, .k, .ref 1 0), (41, .k, .bool t0)], [.box (.agg [.int a.router, .int a.epoch, .int a.last, .sl 4 (a.items.map Itm.v) false, .sl 3 (a.peers.map Per.v) false]), .box (.agg [.int b.router, .int b.epoch, .int b.last, .sl 4 (b.items.map Itm.v) false, .sl 3 (b.peers.map Per.v) false])]⟩
def sameS_n1 (a : Spk) (b : Spk) (t0 : Bool) (t1 : Int) : NF := ⟨[(2, .k, .ref 0 0), (3, .k, .ref 1 0), (5, .k, .int t1)], [.box (.agg [.int a.router, .int a.epoch, .int a.last, .sl 4 (a.items.map Itm.v) false, .sl 3 (a.peers.map Per.v) false]), .box (.agg [.int b.router, .int b.epoch, .int b.last, .sl 4 (b.items.map Itm.v) false, .sl 3 (b.peers.map Per.v) false])]⟩
def sameS_s : Nat → Type
  | 0 => Bool
  | 1 => Int
  | _ => Unit
def sameS_e (r : Bool) : AV := .bool r
def sameS_vc (a : Spk) (b : Spk) (I0 : Bool → Prop) (I1 : Bool → Int → Prop) (m1 : Bool → Int → Nat) (r0 : Bool) : Prop :=
 (br (a.router != b.router)
 (Nf (sameS_n0 a b (true)) [0, 16] (I0 ((true) : Bool)))
 (br (a.epoch != b.epoch)
 (Nf (sameS_n0 a b (true)) [0, 16] (I0 ((true) : Bool)))
 (br (a.last != b.last)
 (Nf (sameS_n0 a b (true)) [0, 16] (I0 ((true) : Bool)))
 (Cl (sameI_c a.items b.items)
 (br (!(decide (a.items = b.items)))
 (Nf (sameS_n0 a b (true)) [0, 16] (I0 ((true) : Bool)))
 (Nf (sameS_n0 a b (((a.peers.map Per.v).length : Int) != ((b.peers.map Per.v).length : Int))) [0, 16] (I0 ((((a.peers.map Per.v).length : Int) != ((b.peers.map Per.v).length : Int)) : Bool)))))))) ∧ ∀ t0 : Bool, I0 t0 →
 br t0
 (Rf (sameS_e (false)) ((false) = r0))
 (Nf (sameS_n1 a b t0 (0)) [0, 1] (I1 t0 (0)) ∧ ∀ t1 : Int, I1 t0 t1 →
 br (decide (t1 < ((a.peers.map Per.v).length : Int)))
 (Rf (a.peers.map Per.v) (ck (decide (0 ≤ t1)) (ck (decide (t1 < (a.peers.length : Int)))
 (∀ x1, a.peers[t1.toNat]? = some x1 →
 Rf (b.peers.map Per.v) (ck (decide (0 ≤ t1)) (ck (decide (t1 < (b.peers.length : Int)))
 (∀ x2, b.peers[t1.toNat]? = some x2 →
 br (!((x1.router == x2.router) && ((x1.epoch == x2.epoch) && ((x1.acked == x2.acked) && true))))
 (Rf (sameS_e (false)) ((false) = r0))
 (Nf (sameS_n1 a b t0 (W (t1 + 1))) [0, 1] (I1 t0 (W (t1 + 1)) ∧ m1 t0 (W (t1 + 1)) < m1 t0 t1)))))))))
 (Rf (sameS_e (true)) ((true) = r0)))
theorem sameS_eq (a : Spk) (b : Spk) (I0 : Bool → Prop) (I1 : Bool → Int → Prop) (m1 : Bool → Int → Nat) (r0 : Bool) : mxP Try.prog 14 [.agg [.int a.router, .int a.epoch, .int a.last, .sl 4 (a.items.map Itm.v) false, .sl 3 (a.peers.map Per.v) false], .agg [.int b.router, .int b.epoch, .int b.last, .sl 4 (b.items.map Itm.v) false, .sl 3 (b.peers.map Per.v) false]] .k sameS_e ((.pass (.pass (.join 0 (sameS_n0 a b) (fun t0 => I0 t0) (.br 144 (.back 0 ((true) : Bool) [0, 16])
 (.br 256 (.back 0 ((true) : Bool) [0, 16])
 (.br 368 (.back 0 ((true) : Bool) [0, 16])
 (.callP (sameI_c a.items b.items)
 (.br 496 (.back 0 ((true) : Bool) [0, 16])
 (.back 0 ((((a.peers.map Per.v).length : Int) != ((b.peers.map Per.v).length : Int)) : Bool) [0, 16])))))) fun (t0 : Bool) =>
 (.br 2 (.ret (false))
 (.loop 1 (sameS_n1 a b t0) (I1 t0) (m1 t0) ((0) : Int) [0, 1] fun (t1 : Int) =>
 (.br 82 (.el 130 Per.v a.peers fun x1 =>
 (.el 210 Per.v b.peers fun x2 =>
 (.br 258 (.ret (false))
 (.back 1 ((W (t1 + 1)) : Int) [0, 1]))))
 (.ret (true)))))))) : An Try.prog sameS_s (Bool)) r0 = sameS_vc a b I0 I1 m1 r0 := by kernel_rfl
theorem sameS_ok (a : Spk) (b : Spk) (I0 : Bool → Prop) (I1 : Bool → Int → Prop) (m1 : Bool → Int → Nat) (r0 : Bool) (h : sameS_vc a b I0 I1 m1 r0) : PSpec Try.prog 14 [.agg [.int a.router, .int a.epoch, .int a.last, .sl 4 (a.items.map Itm.v) false, .sl 3 (a.peers.map Per.v) false], .agg [.int b.router, .int b.epoch, .int b.last, .sl 4 (b.items.map Itm.v) false, .sl 3 (b.peers.map Per.v) false]] (sameS_e r0) := by
  have e := sameS_eq a b I0 I1 m1 r0
  rw [← e] at h
  exact mxP_ok (enc := sameS_e) h (AV.pureB_ok rfl)
theorem sameS_p (a b : Spk) (ok : sameS_a a b) : ∃ I0 I1 m1, sameS_vc a b I0 I1 m1 (decide (a = b)) := by
  unfold sameS_a at ok
  refine ⟨fun t => t = false ↔ a.router = b.router ∧ a.epoch = b.epoch ∧ a.last = b.last ∧ a.items = b.items ∧ a.peers.length = b.peers.length, fun t0 t => ∃ k : Nat, t = k ∧ k ≤ a.peers.length ∧ a.peers.take k = b.peers.take k, fun t0 t => a.peers.length - t.toNat, ?_⟩
  simp only [sameS_vc, vcU, rfU, List.length_map]
  have hle : a.peers.length ≤ 9223372036854775807 := by
    have h := ok
    simp only [Spk.v, pers, AV.ok, okL, List.length_map, maxLen_eq] at h
    omega
  have t : ∀ {q : Prop}, ¬ q → (true = false ↔ q) := fun h => ⟨fun e => Bool.noConfusion e, fun e => absurd e h⟩
  refine ⟨⟨fun e1 => t fun q => ?_, fun e1 => ⟨fun e2 => t fun q => ?_, fun e2 => ⟨fun e3 => t fun q => ?_, fun e3 => ⟨fun e4 => t fun q => ?_, fun e4 => ?_⟩⟩⟩⟩, fun b0 hb => ⟨fun e => ?_, fun e => ⟨⟨0, rfl, by omega, rfl⟩, ?_⟩⟩⟩
  · simp [q.1] at e1
  · simp [q.2.1] at e2
  · simp [q.2.2.1] at e3
  · simp [q.2.2.2.1] at e4
  · simp only [bne_eq_false_iff_eq, Bool.not_eq_false', decide_eq_true_iff] at e1 e2 e3 e4 ⊢
    constructor
    · intro q; exact ⟨e1, e2, e3, e4, by omega⟩
    · intro q; omega
  · subst e
    exact nodec fun q => by subst q; exact Bool.noConfusion (hb.mpr ⟨rfl, rfl, rfl, rfl, rfl⟩)
  · obtain ⟨q1, q2, q3, q4, q5⟩ := hb.mp e
    rintro _ ⟨k, rfl, hk, h⟩
    simp only [Int.toNat_natCast]
    refine ⟨fun h1 => ⟨by omega, by omega, fun x hx => ⟨by omega, by omega, fun y hy => ⟨fun c => ?_, fun c => ?_⟩⟩⟩, fun h1 => ?_⟩
    · refine nodec fun q => ne_of_get hx hy (fun w => ?_) (Spk.eq_iff.mp q).2.2.2.2
      subst w; simp at c
    · rw [W_succ (n := a.peers.length) (by omega) (by omega)]
      refine ⟨⟨k + 1, rfl, by omega, eq_take hx hy h ?_⟩, by omega⟩
      rw [Per.eq_iff]
      simpa using c
    · rw [List.take_of_length_le (by omega), List.take_of_length_le (by omega)] at h
      exact (decide_eq_true (Spk.eq_iff.mpr ⟨q1, q2, q3, q4, h⟩)).symm
def sameS_c (a : Spk) (b : Spk) : PC Try.prog := ⟨14, [(.a [.k, .k, .k, (.s 4), (.s 3)]), (.a [.k, .k, .k, (.s 4), (.s 3)])], [.agg [.int a.router, .int a.epoch, .int a.last, .sl 4 (a.items.map Itm.v) false, .sl 3 (a.peers.map Per.v) false], .agg [.int b.router, .int b.epoch, .int b.last, .sl 4 (b.items.map Itm.v) false, .sl 3 (b.peers.map Per.v) false]], sameS_e (decide (a = b)), PSpec.of_ok fun ok => (sameS_p a b ok).elim fun I0 h => h.elim fun I1 h => h.elim fun m1 h => sameS_ok a b I0 I1 m1 _ h, fnB_ok (by kernel_rfl)⟩
/-! ### Signals are checked -/
end Go.Proofs.Ytglfecmdoekabaa
