/- The reference of sessions: speakers and listeners are checked. -/
import Derived.Test.YtglfecmdoekabaaG18
namespace Go.Proofs.Ytglfecmdoekabaa
open Go Go.Am
set_option linter.unusedVariables false
set_option linter.unusedSimpArgs false
theorem pw_succ {α : Type} (key : α → Int) {l : List α} {k : Nat} {x : α} (hx : l[k]? = some x) :
    (l.take (k + 1)).Pairwise (fun a b => key a < key b) ↔ (l.take k).Pairwise (fun a b => key a < key b) ∧ (0 < k → ∀ y, l[k - 1]? = some y → key y < key x) := by
  cases k with
  | zero => simp only [asc_first key hx, List.take_zero, List.Pairwise.nil, true_and, true_iff]; intro h; omega
  | succ k =>
    obtain ⟨y, hy⟩ : ∃ y, l[k]? = some y := ⟨_, List.getElem?_eq_getElem (by have := lt_of_get hx; omega)⟩
    rw [asc_take key hx (by omega) (by simpa using hy)]
    simp only [Nat.add_sub_cancel, hy, Option.some.injEq, Nat.zero_lt_succ, forall_const, forall_eq']
def spkA (s : Spk) : Prop := (1 ≤ s.router ∧ s.router ≤ 99) ∧ (1 ≤ s.epoch ∧ s.epoch ≤ 1000000) ∧ (0 ≤ s.last ∧ s.last ≤ 1000000) ∧ itmsOk s.last s.items ∧ s.peers.length ≤ 12
instance (s : Spk) : Decidable (spkA s) := by unfold spkA; infer_instance
def spkK (s : Spk) (k : Nat) : Prop := spkA s ∧ (∀ p ∈ s.peers.take k, perOk s.router s.last p) ∧ (s.peers.take k).Pairwise fun x y => x.router < y.router
instance (s : Spk) (k : Nat) : Decidable (spkK s k) := by unfold spkK; infer_instance
theorem spkK_succ {s : Spk} {k : Nat} {x : Per} (hx : s.peers[k]? = some x) : spkK s (k + 1) ↔ spkK s k ∧ perOk s.router s.last x ∧ (0 < k → ∀ y, s.peers[k - 1]? = some y → y.router < x.router) := by
  unfold spkK
  rw [mem_take_succ hx, pw_succ Per.router hx]
  constructor
  · rintro ⟨a, ⟨b, c⟩, d, e⟩; exact ⟨⟨a, b, d⟩, c, e⟩
  · rintro ⟨⟨a, b, d⟩, c, e⟩; exact ⟨a, ⟨b, c⟩, d, e⟩
theorem spkK_all {s : Spk} : spkK s s.peers.length ↔ spkOk s := by
  unfold spkK spkA spkOk
  rw [List.take_length]
  constructor
  · rintro ⟨⟨a, b, c, d, e⟩, f, g⟩; exact ⟨a, b, c, d, e, f, g⟩
  · rintro ⟨a, b, c, d, e, f, g⟩; exact ⟨⟨a, b, c, d, e⟩, f, g⟩
def valR6_a (s : Spk) : Prop := okL [.agg [.int s.router, .int s.epoch, .int s.last, .sl 4 (s.items.map Itm.v) false, .sl 3 (s.peers.map Per.v) false]]
def valR6_n0 (s : Spk) (t0 : Bool) : NF := ⟨[(1, .k, .ref 0 0), (3, .k, .bool t0)], [.box (.agg [.int s.router, .int s.epoch, .int s.last, .sl 4 (s.items.map Itm.v) false, .sl 3 (s.peers.map Per.v) false])]⟩
def valR6_n1 (s : Spk) (t0 : Bool) (t1 : Bool × Int) : NF := ⟨[(1, .k, .ref 0 0), (3, .k, .bool t1.1), (33, .k, .sl 3 (s.peers.map Per.v) false), (34, .k, .int ((s.peers.map Per.v).length : Int)), (35, .k, .int t1.2)], [.box (.agg [.int s.router, .int s.epoch, .int s.last, .sl 4 (s.items.map Itm.v) false, .sl 3 (s.peers.map Per.v) false])]⟩
def valR6_s : Nat → Type
  | 0 => Bool
  | 1 => Bool × Int
  | _ => Unit
def valR6_e (r : Int) : AV := .int r
def valR6_vc (s : Spk) (I0 : Bool → Prop) (I1 : Bool → (Bool × Int) → Prop) (m1 : Bool → (Bool × Int) → Nat) (r0 : Int) : Prop :=
 (Cl (inR_c s.router 1 99)
 (br (inR s.router 1 99)
 (Cl (inR_c s.epoch 1 1000000)
 (br (inR s.epoch 1 1000000)
 (Cl (inR_c s.last 0 1000000)
 (br (inR s.last 0 1000000)
 (Cl (itemsR_c s.items s.last)
 (br (itemsB s.items s.last)
 (Nf (valR6_n0 s (decide (((s.peers.map Per.v).length : Int) ≤ 12))) [0] (I0 ((decide (((s.peers.map Per.v).length : Int) ≤ 12)) : Bool)))
 (Nf (valR6_n0 s (false)) [0] (I0 ((false) : Bool)))))
 (Nf (valR6_n0 s (false)) [0] (I0 ((false) : Bool)))))
 (Nf (valR6_n0 s (false)) [0] (I0 ((false) : Bool)))))
 (Nf (valR6_n0 s (false)) [0] (I0 ((false) : Bool))))) ∧ ∀ t0 : Bool, I0 t0 →
 Nf (valR6_n1 s t0 (t0, 0)) [0] (I1 t0 (t0, 0)) ∧ ∀ t1 : Bool × Int, I1 t0 t1 →
 br (decide (t1.2 < ((s.peers.map Per.v).length : Int)))
 (Rf (s.peers.map Per.v) (ck (decide (0 ≤ t1.2)) (ck (decide (t1.2 < (s.peers.length : Int)))
 (∀ x1, s.peers[t1.2.toNat]? = some x1 →
 br t1.1
 (Cl (inR_c x1.router 1 99)
 (br (inR x1.router 1 99)
 (br (x1.router != s.router)
 (Cl (inR_c x1.epoch 0 1000000)
 (br (inR x1.epoch 0 1000000)
 (Cl (inR_c x1.acked 0 s.last)
 (br (inR x1.acked 0 s.last)
 (br (t1.2 == 0)
 (Nf (valR6_n1 s t0 (true, W (t1.2 + 1))) [0] (I1 t0 (true, W (t1.2 + 1)) ∧ m1 t0 (true, W (t1.2 + 1)) < m1 t0 t1))
 (Rf (s.peers.map Per.v) (ck (decide (0 ≤ (W (t1.2 - 1)))) (ck (decide ((W (t1.2 - 1)) < (s.peers.length : Int)))
 (∀ x2, s.peers[(W (t1.2 - 1)).toNat]? = some x2 →
 Nf (valR6_n1 s t0 (decide (x2.router < x1.router), W (t1.2 + 1))) [0] (I1 t0 (decide (x2.router < x1.router), W (t1.2 + 1)) ∧ m1 t0 (decide (x2.router < x1.router), W (t1.2 + 1)) < m1 t0 t1))))))
 (Nf (valR6_n1 s t0 (false, W (t1.2 + 1))) [0] (I1 t0 (false, W (t1.2 + 1)) ∧ m1 t0 (false, W (t1.2 + 1)) < m1 t0 t1))))
 (Nf (valR6_n1 s t0 (false, W (t1.2 + 1))) [0] (I1 t0 (false, W (t1.2 + 1)) ∧ m1 t0 (false, W (t1.2 + 1)) < m1 t0 t1))))
 (Nf (valR6_n1 s t0 (false, W (t1.2 + 1))) [0] (I1 t0 (false, W (t1.2 + 1)) ∧ m1 t0 (false, W (t1.2 + 1)) < m1 t0 t1)))
 (Nf (valR6_n1 s t0 (false, W (t1.2 + 1))) [0] (I1 t0 (false, W (t1.2 + 1)) ∧ m1 t0 (false, W (t1.2 + 1)) < m1 t0 t1))))
 (Nf (valR6_n1 s t0 (false, W (t1.2 + 1))) [0] (I1 t0 (false, W (t1.2 + 1)) ∧ m1 t0 (false, W (t1.2 + 1)) < m1 t0 t1))))))
 (br (!t1.1)
 (Rf (valR6_e (1)) ((1) = r0))
 (Rf (valR6_e (0)) ((0) = r0)))
theorem valR6_eq (s : Spk) (I0 : Bool → Prop) (I1 : Bool → (Bool × Int) → Prop) (m1 : Bool → (Bool × Int) → Nat) (r0 : Int) : mxP Try.prog 45 [.agg [.int s.router, .int s.epoch, .int s.last, .sl 4 (s.items.map Itm.v) false, .sl 3 (s.peers.map Per.v) false]] .k valR6_e ((.pass (.join 0 (valR6_n0 s) (fun t0 => I0 t0) (.callP (inR_c s.router 1 99)
 (.br 96 (.callP (inR_c s.epoch 1 1000000)
 (.br 176 (.callP (inR_c s.last 0 1000000)
 (.br 256 (.callP (itemsR_c s.items s.last)
 (.br 368 (.back 0 ((decide (((s.peers.map Per.v).length : Int) ≤ 12)) : Bool) [0])
 (.back 0 ((false) : Bool) [0])))
 (.back 0 ((false) : Bool) [0])))
 (.back 0 ((false) : Bool) [0])))
 (.back 0 ((false) : Bool) [0]))) fun (t0 : Bool) =>
 (.loop 1 (valR6_n1 s t0) (I1 t0) (m1 t0) ((t0, 0) : Bool × Int) [0] fun (t1 : Bool × Int) =>
 (.br 17 (.el 33 Per.v s.peers fun x1 =>
 (.br 145 (.callP (inR_c x1.router 1 99)
 (.br 225 (.br 337 (.callP (inR_c x1.epoch 0 1000000)
 (.br 417 (.callP (inR_c x1.acked 0 s.last)
 (.br 529 (.br 577 (.back 1 ((true, W (t1.2 + 1)) : Bool × Int) [0])
 (.el 641 Per.v s.peers fun x2 =>
 (.back 1 ((decide (x2.router < x1.router), W (t1.2 + 1)) : Bool × Int) [0])))
 (.back 1 ((false, W (t1.2 + 1)) : Bool × Int) [0])))
 (.back 1 ((false, W (t1.2 + 1)) : Bool × Int) [0])))
 (.back 1 ((false, W (t1.2 + 1)) : Bool × Int) [0]))
 (.back 1 ((false, W (t1.2 + 1)) : Bool × Int) [0])))
 (.back 1 ((false, W (t1.2 + 1)) : Bool × Int) [0])))
 (.br 49 (.ret (1))
 (.ret (0))))))) : An Try.prog valR6_s (Int)) r0 = valR6_vc s I0 I1 m1 r0 := by kernel_rfl
theorem valR6_ok (s : Spk) (I0 : Bool → Prop) (I1 : Bool → (Bool × Int) → Prop) (m1 : Bool → (Bool × Int) → Nat) (r0 : Int) (h : valR6_vc s I0 I1 m1 r0) : PSpec Try.prog 45 [.agg [.int s.router, .int s.epoch, .int s.last, .sl 4 (s.items.map Itm.v) false, .sl 3 (s.peers.map Per.v) false]] (valR6_e r0) := by
  have e := valR6_eq s I0 I1 m1 r0
  rw [← e] at h
  exact mxP_ok (enc := valR6_e) h (AV.pureB_ok rfl)
theorem valR6_p (s : Spk) (ok : valR6_a s) : ∃ I0 I1 m1, valR6_vc s I0 I1 m1 (valS s) := by
  unfold valR6_a at ok
  refine ⟨fun b => b = decide (spkA s), fun b t => ∃ k : Nat, t.2 = k ∧ k ≤ s.peers.length ∧ t.1 = decide (spkK s k), fun b t => s.peers.length - t.2.toNat, ?_⟩
  simp only [valR6_vc, vcU, rfU, List.length_map]
  have hle : s.peers.length ≤ 9223372036854775807 := by
    have h := ok
    simp only [Spk.v, pers, AV.ok, okL, List.length_map, maxLen_eq] at h
    omega
  simp only [inR, itemsB, decide_eq_true_iff, decide_eq_false_iff_not]
  refine ⟨⟨fun h1 => ⟨fun h2 => ⟨fun h3 => ⟨fun h4 => ?_, fun h4 => ?_⟩, fun h3 => ?_⟩, fun h2 => ?_⟩, fun h1 => ?_⟩, ?_⟩
  · exact decide_eq_decide.mpr ⟨fun q => ⟨h1, h2, h3, h4, by omega⟩, fun q => by have := q.2.2.2.2; omega⟩
  · exact (decide_eq_false fun q => h4 q.2.2.2.1).symm
  · exact (decide_eq_false fun q => h3 q.2.2.1).symm
  · exact (decide_eq_false fun q => h2 q.2.1).symm
  · exact (decide_eq_false fun q => h1 q.1).symm
  · rintro _ rfl
    refine ⟨⟨0, rfl, by omega, decide_eq_decide.mpr (by simp [spkK])⟩, ?_⟩
    rintro ⟨_, _⟩ ⟨k, rfl, hk, rfl⟩
    simp only [Int.toNat_natCast]
    refine ⟨fun h1 => ⟨by omega, by omega, fun x hx => ?_⟩, fun h1 => ?_⟩
    · rw [W_succ (n := s.peers.length) (by omega) (by omega)]
      have no : ∀ {q : Prop}, ¬ q → (spkK s (k + 1) → q) → (∃ k_1 : Nat, ((k + 1 : Nat) : Int) = k_1 ∧ k_1 ≤ s.peers.length ∧ false = decide (spkK s k_1)) ∧ s.peers.length - ((k + 1 : Nat) : Int).toNat < s.peers.length - k := fun hq hi =>
        ⟨⟨k + 1, rfl, by omega, (decide_eq_false fun q => hq (hi q)).symm⟩, by omega⟩
      simp only [decide_eq_true_iff, decide_eq_false_iff_not]
      refine ⟨fun a0 => ⟨fun a1 => ⟨fun a2 => ⟨fun a3 => ⟨fun a4 => ⟨fun a5 => ?_, fun a5 => ?_⟩, fun a4 => ?_⟩, fun a3 => ?_⟩, fun a2 => ?_⟩, fun a1 => ?_⟩, fun a0 => ?_⟩
      · have e : k = 0 := by simpa using a5
        subst e
        refine ⟨⟨1, rfl, by omega, (decide_eq_true ((spkK_succ hx).mpr ⟨a0, ⟨a1, by simpa using a2, a3, a4⟩, fun q => by omega⟩)).symm⟩, by omega⟩
      · have e : 0 < k := by
          rcases Nat.eq_zero_or_pos k with q | q
          · subst q; simp at a5
          · exact q
        rw [W_pred' (by omega)]
        have e2 : ((k : Int) - 1).toNat = k - 1 := by omega
        rw [e2]
        refine ⟨by omega, by omega, fun y hy => ⟨⟨k + 1, rfl, by omega, decide_eq_decide.mpr ?_⟩, by omega⟩⟩
        rw [spkK_succ hx]
        exact ⟨fun q => ⟨a0, ⟨a1, by simpa using a2, a3, a4⟩, fun _ z hz => by rw [hy] at hz; cases hz; exact q⟩, fun q => q.2.2 e y hy⟩
      · exact no a4 fun q => ((spkK_succ hx).mp q).2.1.2.2.2
      · exact no a3 fun q => ((spkK_succ hx).mp q).2.1.2.2.1
      · exact no (q := x.router ≠ s.router) (by simpa using a2) fun q => ((spkK_succ hx).mp q).2.1.2.1
      · exact no a1 fun q => ((spkK_succ hx).mp q).2.1.1
      · exact no a0 fun q => ((spkK_succ hx).mp q).1
    · have e : k = s.peers.length := by omega
      subst e
      have hv : valS s = if spkOk s then 0 else 1 := rfl
      rw [hv]
      by_cases q : spkOk s
      · have := spkK_all.mpr q
        rw [if_pos q]; simp [this]
      · have : ¬ spkK s s.peers.length := fun w => q (spkK_all.mp w)
        rw [if_neg q]; simp [this]
def valR6_c (s : Spk) : PC Try.prog := ⟨45, [(.a [.k, .k, .k, (.s 4), (.s 3)])], [.agg [.int s.router, .int s.epoch, .int s.last, .sl 4 (s.items.map Itm.v) false, .sl 3 (s.peers.map Per.v) false]], valR6_e (valS s), PSpec.of_ok fun ok => (valR6_p s ok).elim fun I0 h => h.elim fun I1 h => h.elim fun m1 h => valR6_ok s I0 I1 m1 _ h, fnB_ok (by kernel_rfl)⟩
def lsnA (l : Lsn) : Prop := (1 ≤ l.router ∧ l.router ≤ 99) ∧ (1 ≤ l.epoch ∧ l.epoch ≤ 1000000) ∧ l.heard.length ≤ 12
instance (l : Lsn) : Decidable (lsnA l) := by unfold lsnA; infer_instance
def lsnK (l : Lsn) (k : Nat) : Prop := lsnA l ∧ (∀ p ∈ l.heard.take k, hrdOk l.router p) ∧ (l.heard.take k).Pairwise fun x y => x.router < y.router
instance (l : Lsn) (k : Nat) : Decidable (lsnK l k) := by unfold lsnK; infer_instance
theorem lsnK_succ {s : Lsn} {k : Nat} {x : Hrd} (hx : s.heard[k]? = some x) : lsnK s (k + 1) ↔ lsnK s k ∧ hrdOk s.router x ∧ (0 < k → ∀ y, s.heard[k - 1]? = some y → y.router < x.router) := by
  unfold lsnK
  rw [mem_take_succ hx, pw_succ Hrd.router hx]
  constructor
  · rintro ⟨a, ⟨b, c⟩, d, e⟩; exact ⟨⟨a, b, d⟩, c, e⟩
  · rintro ⟨⟨a, b, d⟩, c, e⟩; exact ⟨a, ⟨b, c⟩, d, e⟩
theorem lsnK_all {s : Lsn} : lsnK s s.heard.length ↔ lsnOk s := by
  unfold lsnK lsnA lsnOk
  rw [List.take_length]
  constructor
  · rintro ⟨⟨a, b, e⟩, f, g⟩; exact ⟨a, b, e, f, g⟩
  · rintro ⟨a, b, e, f, g⟩; exact ⟨⟨a, b, e⟩, f, g⟩
def newR_a (router : Int) (epoch : Int) (peers : (List Int)) : Prop := okL [.int router, .int epoch, .sl 1 (peers.map AV.int) false]
def newR_n0 (router : Int) (epoch : Int) (peers : (List Int)) (t0 : Int × (List Per)) : NF := ⟨[(6, .k, .ref 0 0), (8, .k, .ref 1 0), (19, .k, .sl 1 (peers.map AV.int) false), (20, .k, .int ((peers.map AV.int).length : Int)), (21, .k, .int t0.1)], [.box (.agg [.int 0, .int 0, .int 0, .sl 0 [] true, .sl 0 [] true]), .box (.agg [.int router, .int epoch, .int 0, .sl 0 [] true, .vec 2]), .vec 3 (t0.2.map Per.v) (pureBL_map (fun _ => rfl) t0.2)]⟩
def newR_s : Nat → Type
  | 0 => Int × (List Per)
  | _ => Unit
def newR_e (r : Spk × Int) : AV := .tup [Spk.v r.1, .int r.2]
def newR_vc (router : Int) (epoch : Int) (peers : (List Int)) (I0 : (Int × (List Per)) → Prop) (m0 : (Int × (List Per)) → Nat) (r0 : Spk × Int) : Prop :=
 br (decide (12 < ((peers.map AV.int).length : Int)))
 (Rf (newR_e ((⟨0, 0, 0, [], []⟩ : Spk), 1)) (((⟨0, 0, 0, [], []⟩ : Spk), 1) = r0))
 (Nf (newR_n0 router epoch peers (0, [])) [0, 80, 208] (I0 (0, [])) ∧ ∀ t0 : Int × (List Per), I0 t0 →
 br (decide (t0.1 < ((peers.map AV.int).length : Int)))
 (Rf (peers.map AV.int) (ck (decide (0 ≤ t0.1)) (ck (decide (t0.1 < (peers.length : Int)))
 (∀ x1, peers[t0.1.toNat]? = some x1 →
 Rf (α := List AV) (t0.2.map Per.v) (Rf (α := List AV) [.agg [.int x1, .int 0, .int 0]]
 (ck (decide (t0.2.length + 1 ≤ 1000000))
 (Nf (newR_n0 router epoch peers (W (t0.1 + 1), t0.2 ++ [(⟨x1, 0, 0⟩ : Per)])) [0, 1, 147] (I0 (W (t0.1 + 1), t0.2 ++ [(⟨x1, 0, 0⟩ : Per)]) ∧ m0 (W (t0.1 + 1), t0.2 ++ [(⟨x1, 0, 0⟩ : Per)]) < m0 t0))))))))
 (Cl (valR6_c (⟨router, epoch, 0, [], t0.2⟩ : Spk))
 (ck (pureBLs [(t0.2.map Per.v)])
 (br ((valS (⟨router, epoch, 0, [], t0.2⟩ : Spk)) != 0)
 (Rf (newR_e ((⟨0, 0, 0, [], []⟩ : Spk), valS (⟨router, epoch, 0, [], t0.2⟩ : Spk))) (((⟨0, 0, 0, [], []⟩ : Spk), valS (⟨router, epoch, 0, [], t0.2⟩ : Spk)) = r0))
 (Rf (t0.2.map Per.v) (Rf (newR_e ((⟨router, epoch, 0, [], t0.2⟩ : Spk), 0)) (((⟨router, epoch, 0, [], t0.2⟩ : Spk), 0) = r0)))))))
theorem newR_eq (router : Int) (epoch : Int) (peers : (List Int)) (I0 : (Int × (List Per)) → Prop) (m0 : (Int × (List Per)) → Nat) (r0 : Spk × Int) : mxP Try.prog 16 [.int router, .int epoch, .sl 1 (peers.map AV.int) false] (.a [(.a [.k, .k, .k, (.s 4), (.s 3)]), .k]) newR_e ((.br 160 (.ret ((⟨0, 0, 0, [], []⟩ : Spk), 1))
 (.cmdL (.nilB 80 4 3) (.loop 0 (newR_n0 router epoch peers) (I0) (m0) ((0, []) : Int × (List Per)) [0, 80, 208] fun (t0 : Int × (List Per)) =>
 (.br 19 (.el 19 AV.int peers fun x1 =>
 (.app 147 Per.v t0.2 [(⟨x1, 0, 0⟩ : Per)]
 (.back 0 ((W (t0.1 + 1), t0.2 ++ [(⟨x1, 0, 0⟩ : Per)]) : Int × (List Per)) [0, 1, 147])))
 (.callP (valR6_c (⟨router, epoch, 0, [], t0.2⟩ : Spk))
 (.br 99 (.ret ((⟨0, 0, 0, [], []⟩ : Spk), valS (⟨router, epoch, 0, [], t0.2⟩ : Spk)))
 (.cmdL (.frzE 2 (t0.2.map Per.v) (pureBL_map (fun _ => rfl) t0.2)) (.ret ((⟨router, epoch, 0, [], t0.2⟩ : Spk), 0))))))))) : An Try.prog newR_s (Spk × Int)) r0 = newR_vc router epoch peers I0 m0 r0 := by kernel_rfl
theorem newR_ok (router : Int) (epoch : Int) (peers : (List Int)) (I0 : (Int × (List Per)) → Prop) (m0 : (Int × (List Per)) → Nat) (r0 : Spk × Int) (h : newR_vc router epoch peers I0 m0 r0) : PSpec Try.prog 16 [.int router, .int epoch, .sl 1 (peers.map AV.int) false] (newR_e r0) := by
  have e := newR_eq router epoch peers I0 m0 r0
  rw [← e] at h
  exact mxP_ok (enc := newR_e) h (AV.pureB_ok rfl)
theorem newR_p (r k : Int) (p : List Int) (ok : newR_a r k p) : ∃ I m, newR_vc r k p I m (new r k p) := by
  refine ⟨fun t => ∃ j : Nat, t.1 = j ∧ j ≤ p.length ∧ t.2 = (p.take j).map fun x => ⟨x, 0, 0⟩, fun t => p.length - t.1.toNat, ?_⟩
  simp only [newR_vc, vcU, rfU, List.length_map]
  have hn : new r k p = if spkOk ⟨r, k, 0, [], p.map fun x => ⟨x, 0, 0⟩⟩ then (⟨r, k, 0, [], p.map fun x => ⟨x, 0, 0⟩⟩, 0) else (spk0, 1) := rfl
  refine ⟨fun h => ?_, fun h => ⟨⟨0, rfl, by omega, rfl⟩, ?_⟩⟩
  · rw [hn, if_neg]
    · rfl
    · intro q
      have := q.2.2.2.2.1
      simp only [List.length_map] at this; omega
  · rintro ⟨_, _⟩ ⟨j, rfl, hj, rfl⟩
    simp only [Int.toNat_natCast]
    refine ⟨fun h1 => ⟨by omega, by omega, fun x hx => ⟨by simp; omega, ⟨j + 1, ?_, by omega, ?_⟩, ?_⟩⟩, fun h1 => ⟨pureBLs_one (pureBL_map (fun _ => rfl) _), ?_⟩⟩
    · rw [W_succ (n := p.length) (by omega) (by omega)]
    · rw [take_succ hx, List.map_append]; rfl
    · rw [W_succ (n := p.length) (by omega) (by omega)]; omega
    · rw [List.take_of_length_le (by omega), hn]
      have hv : valS ⟨r, k, 0, [], p.map fun x => ⟨x, 0, 0⟩⟩ = if spkOk ⟨r, k, 0, [], p.map fun x => ⟨x, 0, 0⟩⟩ then 0 else 1 := rfl
      rw [hv]
      by_cases q : spkOk ⟨r, k, 0, [], p.map fun x => ⟨x, 0, 0⟩⟩
      · rw [if_pos q, if_pos q]; simp
      · rw [if_neg q, if_neg q]; simp [spk0]
def newR_c (router : Int) (epoch : Int) (peers : (List Int)) : PC Try.prog := ⟨16, [.k, .k, (.s 1)], [.int router, .int epoch, .sl 1 (peers.map AV.int) false], newR_e (new router epoch peers), PSpec.of_ok fun ok => (newR_p router epoch peers ok).elim fun I0 h => h.elim fun m0 h => newR_ok router epoch peers I0 m0 _ h, fnB_ok (by kernel_rfl)⟩
def restartR_a (s : Spk) (wants : (List Wnt)) : Prop := okL [.agg [.int s.router, .int s.epoch, .int s.last, .sl 4 (s.items.map Itm.v) false, .sl 3 (s.peers.map Per.v) false], .sl 3 (wants.map Wnt.v) false]
def restartR_n0 (s : Spk) (wants : (List Wnt)) (t0 : Int × (List Itm)) : NF := ⟨[(2, .k, .ref 0 0), (4, .k, .ref 1 0), (8, .k, .ref 2 0), (37, .k, .sl 3 (wants.map Wnt.v) false), (38, .k, .int ((wants.map Wnt.v).length : Int)), (39, .k, .int t0.1)], [.box (.agg [.int s.router, .int s.epoch, .int s.last, .sl 4 (s.items.map Itm.v) false, .sl 3 (s.peers.map Per.v) false]), .box (.agg [.int 0, .int 0, .int 0, .sl 0 [] true, .sl 0 [] true]), .box (.agg [.int s.router, .int (W (s.epoch + 1)), .int ((wants.map Wnt.v).length : Int), .vec 3, .sl 0 [] true]), .vec 4 (t0.2.map Itm.v) (pureBL_map (fun _ => rfl) t0.2)]⟩
def restartR_n1 (s : Spk) (wants : (List Wnt)) (t0 : Int × (List Itm)) (t1 : Int × (List Per)) : NF := ⟨[(4, .k, .ref 0 0), (8, .k, .ref 1 0), (58, .k, .sl 3 (s.peers.map Per.v) false), (59, .k, .int ((s.peers.map Per.v).length : Int)), (60, .k, .int t1.1)], [.box (.agg [.int 0, .int 0, .int 0, .sl 0 [] true, .sl 0 [] true]), .box (.agg [.int s.router, .int (W (s.epoch + 1)), .int ((wants.map Wnt.v).length : Int), .vec 2, .vec 3]), .vec 4 (t0.2.map Itm.v) (pureBL_map (fun _ => rfl) t0.2), .vec 3 (t1.2.map Per.v) (pureBL_map (fun _ => rfl) t1.2)]⟩
def restartR_s : Nat → Type
  | 0 => Int × (List Itm)
  | 1 => Int × (List Per)
  | _ => Unit
def restartR_e (r : Spk × Int) : AV := .tup [Spk.v r.1, .int r.2]
def restartR_vc (s : Spk) (wants : (List Wnt)) (I0 : (Int × (List Itm)) → Prop) (m0 : (Int × (List Itm)) → Nat) (I1 : Int × (List Itm) → (Int × (List Per)) → Prop) (m1 : Int × (List Itm) → (Int × (List Per)) → Nat) (r0 : Spk × Int) : Prop :=
 Cl (valR6_c s)
 (br ((valS s) != 0)
 (Rf (restartR_e ((⟨0, 0, 0, [], []⟩ : Spk), valS s)) (((⟨0, 0, 0, [], []⟩ : Spk), valS s) = r0))
 (Cl (valR_c wants)
 (br ((wErr false wants) != 0)
 (Rf (restartR_e ((⟨0, 0, 0, [], []⟩ : Spk), wErr false wants)) (((⟨0, 0, 0, [], []⟩ : Spk), wErr false wants) = r0))
 (br (decide (1000000 ≤ s.epoch))
 (Rf (restartR_e ((⟨0, 0, 0, [], []⟩ : Spk), 3)) (((⟨0, 0, 0, [], []⟩ : Spk), 3) = r0))
 (Nf (restartR_n0 s wants (0, [])) [0, 16, 384, 464] (I0 (0, [])) ∧ ∀ t0 : Int × (List Itm), I0 t0 →
 br (decide (t0.1 < ((wants.map Wnt.v).length : Int)))
 (Rf (wants.map Wnt.v) (ck (decide (0 ≤ t0.1)) (ck (decide (t0.1 < (wants.length : Int)))
 (∀ x1, wants[t0.1.toNat]? = some x1 →
 Rf (α := List AV) (t0.2.map Itm.v) (Rf (α := List AV) [.agg [.int (W (t0.1 + 1)), .int x1.grp, .int x1.mode, .sl 1 (x1.srcs.map AV.int) false]]
 (ck (decide (t0.2.length + 1 ≤ 1000000))
 (Nf (restartR_n0 s wants (W (t0.1 + 1), t0.2 ++ [(⟨W (t0.1 + 1), x1.grp, x1.mode, x1.srcs⟩ : Itm)])) [0, 1, 2, 276] (I0 (W (t0.1 + 1), t0.2 ++ [(⟨W (t0.1 + 1), x1.grp, x1.mode, x1.srcs⟩ : Itm)]) ∧ m0 (W (t0.1 + 1), t0.2 ++ [(⟨W (t0.1 + 1), x1.grp, x1.mode, x1.srcs⟩ : Itm)]) < m0 t0))))))))
 (Nf (restartR_n1 s wants t0 (0, [])) [1, 2, 3, 84] (I1 t0 (0, [])) ∧ ∀ t1 : Int × (List Per), I1 t0 t1 →
 br (decide (t1.1 < ((s.peers.map Per.v).length : Int)))
 (Rf (s.peers.map Per.v) (ck (decide (0 ≤ t1.1)) (ck (decide (t1.1 < (s.peers.length : Int)))
 (∀ x2, s.peers[t1.1.toNat]? = some x2 →
 Rf (α := List AV) (t1.2.map Per.v) (Rf (α := List AV) [.agg [.int x2.router, .int 0, .int 0]]
 (ck (decide (t1.2.length + 1 ≤ 1000000))
 (Nf (restartR_n1 s wants t0 (W (t1.1 + 1), t1.2 ++ [(⟨x2.router, 0, 0⟩ : Per)])) [0, 1, 2, 180] (I1 t0 (W (t1.1 + 1), t1.2 ++ [(⟨x2.router, 0, 0⟩ : Per)]) ∧ m1 t0 (W (t1.1 + 1), t1.2 ++ [(⟨x2.router, 0, 0⟩ : Per)]) < m1 t0 t1))))))))
 (Rf (t1.2.map Per.v) (Rf (t0.2.map Itm.v) (Rf (restartR_e ((⟨s.router, W (s.epoch + 1), ((wants.map Wnt.v).length : Int), t0.2, t1.2⟩ : Spk), 0)) (((⟨s.router, W (s.epoch + 1), ((wants.map Wnt.v).length : Int), t0.2, t1.2⟩ : Spk), 0) = r0))))))))))
theorem restartR_eq (s : Spk) (wants : (List Wnt)) (I0 : (Int × (List Itm)) → Prop) (m0 : (Int × (List Itm)) → Nat) (I1 : Int × (List Itm) → (Int × (List Per)) → Prop) (m1 : Int × (List Itm) → (Int × (List Per)) → Nat) (r0 : Spk × Int) : mxP Try.prog 50 [.agg [.int s.router, .int s.epoch, .int s.last, .sl 4 (s.items.map Itm.v) false, .sl 3 (s.peers.map Per.v) false], .sl 3 (wants.map Wnt.v) false] (.a [(.a [.k, .k, .k, (.s 4), (.s 3)]), .k]) restartR_e ((.callP (valR6_c s)
 (.br 128 (.ret ((⟨0, 0, 0, [], []⟩ : Spk), valS s))
 (.callP (valR_c wants)
 (.br 208 (.ret ((⟨0, 0, 0, [], []⟩ : Spk), wErr false wants))
 (.br 256 (.ret ((⟨0, 0, 0, [], []⟩ : Spk), 3))
 (.cmdL (.nilB 384 3 4) (.loop 0 (restartR_n0 s wants) (I0) (m0) ((0, []) : Int × (List Itm)) [0, 16, 384, 464] fun (t0 : Int × (List Itm)) =>
 (.br 20 (.el 36 Wnt.v wants fun x1 =>
 (.app 276 Itm.v t0.2 [(⟨W (t0.1 + 1), x1.grp, x1.mode, x1.srcs⟩ : Itm)]
 (.back 0 ((W (t0.1 + 1), t0.2 ++ [(⟨W (t0.1 + 1), x1.grp, x1.mode, x1.srcs⟩ : Itm)]) : Int × (List Itm)) [0, 1, 2, 276])))
 (.cmdL (.nilB 2 4 3) (.loop 1 (restartR_n1 s wants t0) (I1 t0) (m1 t0) ((0, []) : Int × (List Per)) [1, 2, 3, 84] fun (t1 : Int × (List Per)) =>
 (.br 20 (.el 20 Per.v s.peers fun x2 =>
 (.app 180 Per.v t1.2 [(⟨x2.router, 0, 0⟩ : Per)]
 (.back 1 ((W (t1.1 + 1), t1.2 ++ [(⟨x2.router, 0, 0⟩ : Per)]) : Int × (List Per)) [0, 1, 2, 180])))
 (.cmdL (.frzE 3 (t1.2.map Per.v) (pureBL_map (fun _ => rfl) t1.2)) (.cmdL (.frzE 2 (t0.2.map Itm.v) (pureBL_map (fun _ => rfl) t0.2)) (.ret ((⟨s.router, W (s.epoch + 1), ((wants.map Wnt.v).length : Int), t0.2, t1.2⟩ : Spk), 0))))))))))))))) : An Try.prog restartR_s (Spk × Int)) r0 = restartR_vc s wants I0 m0 I1 m1 r0 := by kernel_rfl
theorem restartR_ok (s : Spk) (wants : (List Wnt)) (I0 : (Int × (List Itm)) → Prop) (m0 : (Int × (List Itm)) → Nat) (I1 : Int × (List Itm) → (Int × (List Per)) → Prop) (m1 : Int × (List Itm) → (Int × (List Per)) → Nat) (r0 : Spk × Int) (h : restartR_vc s wants I0 m0 I1 m1 r0) : PSpec Try.prog 50 [.agg [.int s.router, .int s.epoch, .int s.last, .sl 4 (s.items.map Itm.v) false, .sl 3 (s.peers.map Per.v) false], .sl 3 (wants.map Wnt.v) false] (restartR_e r0) := by
  have e := restartR_eq s wants I0 m0 I1 m1 r0
  rw [← e] at h
  exact mxP_ok (enc := restartR_e) h (AV.pureB_ok rfl)
theorem restartR_p (s : Spk) (w : List Wnt) (ok : restartR_a s w) : ∃ I0 m0 I1 m1, restartR_vc s w I0 m0 I1 m1 (restart s w) := by
  refine ⟨fun t => ∃ j : Nat, t.1 = j ∧ j ≤ w.length ∧ t.2 = (w.mapIdx wItm).take j, fun t => w.length - t.1.toNat,
    fun t0 t => ∃ j : Nat, t.1 = j ∧ j ≤ s.peers.length ∧ t.2 = (s.peers.take j).map fun p => ⟨p.router, 0, 0⟩, fun t0 t => s.peers.length - t.1.toNat, ?_⟩
  simp only [restartR_vc, vcU, rfU, List.length_map]
  have hv : valS s = if spkOk s then 0 else 1 := rfl
  rw [hv]
  unfold restart
  by_cases h1 : spkOk s
  case neg => rw [if_neg h1, if_pos h1]; simp [spk0]
  rw [if_pos h1, if_neg (not_not_intro h1)]
  refine ⟨fun q => by simp at q, fun _ => ⟨fun h2 => ?_, fun h2 => ?_⟩⟩
  · have h2 : wErr false w ≠ 0 := by simpa using h2
    rw [if_pos h2]; rfl
  have h2 : wErr false w = 0 := by simpa using h2
  rw [if_neg (not_not_intro h2)]
  have he := h1.2.1
  refine ⟨fun h3 => ?_, fun h3 => ⟨⟨0, rfl, by omega, by simp⟩, ?_⟩⟩
  · rw [if_pos (by omega)]; rfl
  rw [if_neg (by omega)]
  obtain ⟨w1, _⟩ := wErr_zero.mp h2
  rintro ⟨_, _⟩ ⟨j, rfl, hj, rfl⟩
  simp only [Int.toNat_natCast]
  refine ⟨fun h4 => ⟨by omega, by omega, fun x hx => ?_⟩, fun h4 => ⟨⟨0, rfl, by omega, rfl⟩, ?_⟩⟩
  · rw [W_succ (n := w.length) (by omega) (by omega)]
    refine ⟨by simp; omega, ⟨j + 1, rfl, by omega, ?_⟩, by omega⟩
    have : (w.mapIdx wItm)[j]? = some (wItm j x) := by rw [List.getElem?_mapIdx, hx]; rfl
    rw [take_succ this]
    rfl
  · rintro ⟨_, _⟩ ⟨i, rfl, hi, rfl⟩
    have hp := h1.2.2.2.2.1
    simp only [Int.toNat_natCast]
    refine ⟨fun h5 => ⟨by omega, by omega, fun x hx => ?_⟩, fun h5 => ?_⟩
    · rw [W_succ (n := s.peers.length) (by omega) (by omega)]
      refine ⟨by simp; omega, ⟨i + 1, rfl, by omega, ?_⟩, by omega⟩
      rw [take_succ hx, List.map_append]; rfl
    · rw [List.take_of_length_le (by simp; omega), List.take_of_length_le (l := s.peers) (by omega), W_eq (by omega)]
def restartR_c (s : Spk) (wants : (List Wnt)) : PC Try.prog := ⟨50, [(.a [.k, .k, .k, (.s 4), (.s 3)]), (.s 3)], [.agg [.int s.router, .int s.epoch, .int s.last, .sl 4 (s.items.map Itm.v) false, .sl 3 (s.peers.map Per.v) false], .sl 3 (wants.map Wnt.v) false], restartR_e (restart s wants), PSpec.of_ok fun ok => (restartR_p s wants ok).elim fun I0 h => h.elim fun m0 h => h.elim fun I1 h => h.elim fun m1 h => restartR_ok s wants I0 m0 I1 m1 _ h, fnB_ok (by kernel_rfl)⟩
end Go.Proofs.Ytglfecmdoekabaa
