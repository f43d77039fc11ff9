/- Binary search; wants are checked. -/
import Derived.Test.YtglfecmdoekabaaG4
import Derived.Test.YtglfecmdoekabaaV3
namespace Go.Proofs.Ytglfecmdoekabaa
open Go Go.Am
set_option linter.unusedVariables false
set_option linter.unusedSimpArgs false
def cmpP (p : Per) (r : Int) : Int := cmpI p.router r
def cmpP_a (p : Per) (r : Int) : Prop := okL [.agg [.int p.router, .int p.epoch, .int p.acked], .int r]
def cmpP_s : Nat → Type
  | _ => Unit
def cmpP_e (r : Int) : AV := .int r
def cmpP_vc (p : Per) (r : Int) (r0 : Int) : Prop :=
 Cl (cmpI_c p.router r)
 (Rf (cmpP_e (cmpI p.router r)) ((cmpI p.router r) = r0))
theorem cmpP_eq (p : Per) (r : Int) (r0 : Int) : mxP Try.prog 78 [.agg [.int p.router, .int p.epoch, .int p.acked], .int r] .k cmpP_e ((.callP (cmpI_c p.router r)
 (.ret (cmpI p.router r))) : An Try.prog cmpP_s (Int)) r0 = cmpP_vc p r r0 := by kernel_rfl
theorem cmpP_ok (p : Per) (r : Int) (r0 : Int) (h : cmpP_vc p r r0) : PSpec Try.prog 78 [.agg [.int p.router, .int p.epoch, .int p.acked], .int r] (cmpP_e r0) := by
  have e := cmpP_eq p r r0
  rw [← e] at h
  exact mxP_ok (enc := cmpP_e) h (AV.pureB_ok rfl)
theorem cmpP_p (p : Per) (r : Int) (ok : cmpP_a p r) : cmpP_vc p r (cmpP p r) := by
  simp only [cmpP_vc, vcU, rfU, List.length_map]
  rfl
def cmpP_c (p : Per) (r : Int) : PC Try.prog := ⟨78, [.k, .k], [.agg [.int p.router, .int p.epoch, .int p.acked], .int r], cmpP_e (cmpP p r), PSpec.of_ok fun ok => cmpP_ok p r _ (cmpP_p p r ok), fnB_ok (by kernel_rfl)⟩
def cmpH (p : Hrd) (r : Int) : Int := cmpI p.router r
theorem half (i j : Nat) (h : i ≤ j) (hj : j ≤ 1000000) : W ((IntKind.u64.wrap (W ((i : Int) + j))).fdiv 2) = (((i + j) / 2 : Nat) : Int) := by
  have e1 : W ((i : Int) + j) = ((i + j : Nat) : Int) := W_eq ⟨by omega, by omega⟩
  rw [e1]
  have e2 : IntKind.u64.wrap ((i + j : Nat) : Int) = ((i + j : Nat) : Int) := by simp [IntKind.wrap, IntKind.signed, IntKind.bits]; omega
  rw [e2, show Int.fdiv ((i + j : Nat) : Int) 2 = (((i + j) / 2 : Nat) : Int) by rw [Int.fdiv_eq_ediv_of_nonneg _ (by omega)]; rfl]
  exact W_eq ⟨by omega, by omega⟩
theorem idx_eq {α : Type} {key : α → Int} {l : List α} {r : Int} {i : Nat} (hi : i ≤ l.length) (h1 : ∀ k x, k < i → l[k]? = some x → key x < r) (h2 : ∀ k x, i ≤ k → l[k]? = some x → r ≤ key x) :
    l.findIdx (fun p => !decide (key p < r)) = i := by
  by_cases e : i = l.length
  · subst e
    rw [List.findIdx_eq_length]
    intro x hx
    obtain ⟨k, hk, rfl⟩ := List.mem_iff_getElem.mp hx
    have := h1 k _ hk (List.getElem?_eq_getElem hk)
    simp [this]
  · rw [List.findIdx_eq (by omega)]
    refine ⟨?_, fun j hj => ?_⟩
    · have := h2 i _ (Nat.le_refl _) (List.getElem?_eq_getElem (by omega))
      simp; omega
    · have := h1 j _ hj (List.getElem?_eq_getElem (by omega))
      simp [this]
theorem getD_some {α : Type} {l : List α} {i : Nat} {x d : α} (h : l[i]? = some x) : l.getD i d = x := by rw [List.getD, h]; rfl
theorem cmp_lt (x y : Int) : cmpI x y < 0 ↔ x < y := by
  unfold cmpI; split
  · simp_all
  · split <;> simp_all
theorem cmp_eq (x y : Int) : cmpI x y = 0 ↔ x = y := by
  unfold cmpI; split
  · simp; omega
  · split
    · simp; omega
    · simp; omega
def bsP_a (x : (List Per)) (target : Int) : Prop := okL [.sl 3 (x.map Per.v) false, .int target, .func 78 []]
def bsP_n0 (x : (List Per)) (target : Int) (t0 : Int × Int) : NF := ⟨[(0, .k, .sl 3 (x.map Per.v) false), (1, .k, .int target), (2, .k, .func 78 []), (8, .k, .int ((x.map Per.v).length : Int)), (9, .k, .int t0.1), (10, .k, .int t0.2)], []⟩
def bsP_s : Nat → Type
  | 0 => Int × Int
  | _ => Unit
def bsP_e (r : Int × Bool) : AV := .tup [.int r.1, .bool r.2]
def bsP_vc (x : (List Per)) (target : Int) (I0 : (Int × Int) → Prop) (m0 : (Int × Int) → Nat) (r0 : Int × Bool) : Prop :=
 Nf (bsP_n0 x target (0, ((x.map Per.v).length : Int))) [] (I0 (0, ((x.map Per.v).length : Int))) ∧ ∀ t0 : Int × Int, I0 t0 →
 br (decide (t0.1 < t0.2))
 (Rf (x.map Per.v) (ck (decide (0 ≤ (W (Int.fdiv (IntKind.u64.wrap (W (t0.1 + t0.2))) 2)))) (ck (decide ((W (Int.fdiv (IntKind.u64.wrap (W (t0.1 + t0.2))) 2)) < (x.length : Int)))
 (∀ x1, x[(W (Int.fdiv (IntKind.u64.wrap (W (t0.1 + t0.2))) 2)).toNat]? = some x1 →
 Cl (cmpP_c x1 target)
 (br (decide ((cmpP x1 target) < 0))
 (Nf (bsP_n0 x target (W ((W (Int.fdiv (IntKind.u64.wrap (W (t0.1 + t0.2))) 2)) + 1), t0.2)) [] (I0 (W ((W (Int.fdiv (IntKind.u64.wrap (W (t0.1 + t0.2))) 2)) + 1), t0.2) ∧ m0 (W ((W (Int.fdiv (IntKind.u64.wrap (W (t0.1 + t0.2))) 2)) + 1), t0.2) < m0 t0))
 (Nf (bsP_n0 x target (t0.1, W (Int.fdiv (IntKind.u64.wrap (W (t0.1 + t0.2))) 2))) [] (I0 (t0.1, W (Int.fdiv (IntKind.u64.wrap (W (t0.1 + t0.2))) 2)) ∧ m0 (t0.1, W (Int.fdiv (IntKind.u64.wrap (W (t0.1 + t0.2))) 2)) < m0 t0)))))))
 (br (decide (t0.1 < ((x.map Per.v).length : Int)))
 (Rf (x.map Per.v) (ck (decide (0 ≤ t0.1)) (ck (decide (t0.1 < (x.length : Int)))
 (∀ x2, x[t0.1.toNat]? = some x2 →
 Cl (cmpP_c x2 target)
 (Rf (bsP_e (t0.1, (cmpP x2 target) == 0)) ((t0.1, (cmpP x2 target) == 0) = r0))))))
 (Rf (bsP_e (t0.1, false)) ((t0.1, false) = r0)))
theorem bsP_eq (x : (List Per)) (target : Int) (I0 : (Int × Int) → Prop) (m0 : (Int × Int) → Nat) (r0 : Int × Bool) : mxP Try.prog 77 [.sl 3 (x.map Per.v) false, .int target, .func 78 []] .k bsP_e ((.loop 0 (bsP_n0 x target) (I0) (m0) ((0, ((x.map Per.v).length : Int)) : Int × Int) [] fun (t0 : Int × Int) =>
 (.br 48 (.el 208 Per.v x fun x1 =>
 (.callP (cmpP_c x1 target)
 (.br 288 (.back 0 ((W ((W (Int.fdiv (IntKind.u64.wrap (W (t0.1 + t0.2))) 2)) + 1), t0.2) : Int × Int) [])
 (.back 0 ((t0.1, W (Int.fdiv (IntKind.u64.wrap (W (t0.1 + t0.2))) 2)) : Int × Int) []))))
 (.br 128 (.el 176 Per.v x fun x2 =>
 (.callP (cmpP_c x2 target)
 (.ret (t0.1, (cmpP x2 target) == 0))))
 (.ret (t0.1, false))))) : An Try.prog bsP_s (Int × Bool)) r0 = bsP_vc x target I0 m0 r0 := by kernel_rfl
theorem bsP_ok (x : (List Per)) (target : Int) (I0 : (Int × Int) → Prop) (m0 : (Int × Int) → Nat) (r0 : Int × Bool) (h : bsP_vc x target I0 m0 r0) : PSpec Try.prog 77 [.sl 3 (x.map Per.v) false, .int target, .func 78 []] (bsP_e r0) := by
  have e := bsP_eq x target I0 m0 r0
  rw [← e] at h
  exact mxP_ok (enc := bsP_e) h (AV.pureB_ok rfl)
theorem bsP_p (l : List Per) (r : Int) (h : l.Pairwise fun x y => x.router < y.router) (hl : l.length ≤ 1000000) (ok : bsP_a l r) : ∃ I m, bsP_vc l r I m ((posP l r : Int), decide (hitP l r)) := by
  simp only [bsP_a, okU, Blk.ok, plainV, List.length_map] at ok
  refine ⟨fun t => ∃ i j : Nat, t = ((i : Int), (j : Int)) ∧ i ≤ j ∧ j ≤ l.length ∧ (∀ k x, k < i → l[k]? = some x → x.router < r) ∧ (∀ k x, j ≤ k → l[k]? = some x → r ≤ x.router), fun t => (t.2 - t.1).toNat, ?_⟩
  simp only [bsP_vc, vcU, rfU, List.length_map]
  refine ⟨⟨0, l.length, rfl, by omega, by omega, fun k x hk => by omega, fun k x hk hx => by have := lt_of_get hx; omega⟩, ?_⟩
  rintro _ ⟨i, j, rfl, hij, hj, h1, h2⟩
  refine ⟨fun h3 => ?_, fun h3 => ?_⟩
  · have h3 : i < j := by simpa using h3
    simp only [half i j hij (by omega), Int.toNat_natCast]
    refine ⟨by omega, by omega, fun x hx => ⟨fun e => ?_, fun e => ?_⟩⟩
    · rw [cmpP, cmp_lt] at e
      rw [W_succ (n := l.length) (by omega) (by omega)]
      refine ⟨⟨_, _, rfl, by omega, hj, fun k y hk hy => ?_, h2⟩, by omega⟩
      by_cases e' : k = (i + j) / 2
      · subst e'; rw [hx] at hy; cases hy; exact e
      · have := pw_get h (show k < (i + j) / 2 by omega) hy hx; omega
    · rw [cmpP, cmp_lt] at e
      refine ⟨⟨_, _, rfl, by omega, by omega, h1, fun k y hk hy => ?_⟩, by omega⟩
      by_cases e' : k = (i + j) / 2
      · subst e'; rw [hx] at hy; cases hy; omega
      · have := pw_get h (show (i + j) / 2 < k by omega) hx hy; omega
  · have h3 : i = j := by simp at h3; omega
    subst h3
    have hp : posP l r = i := idx_eq (key := Per.router) hj h1 h2
    simp only [Int.toNat_natCast]
    refine ⟨fun h4 => ⟨by omega, by omega, fun x hx => ?_⟩, fun h4 => ?_⟩
    · have e : hitP l r ↔ x.router = r := by rw [hitP, hp, getD_some hx]; exact ⟨fun h => h.2, fun h => ⟨lt_of_get hx, h⟩⟩
      rw [hp]
      refine congrArg _ ?_
      rw [cmpP, Bool.eq_iff_iff, decide_eq_true_iff, e, beq_iff_eq, cmp_eq]
    · rw [hp, decide_eq_false]
      rw [hitP, hp]; intro h; omega
def bsP_c (x : (List Per)) (target : Int) (h : x.Pairwise fun x y => x.router < y.router) (hl : x.length ≤ 1000000) : PC Try.prog := ⟨77, [(.s 3), .k, .k], [.sl 3 (x.map Per.v) false, .int target, .func 78 []], bsP_e ((posP x target : Int), decide (hitP x target)), PSpec.of_ok fun ok => (bsP_p x target h hl ok).elim fun I0 h => h.elim fun m0 h => bsP_ok x target I0 m0 _ h, fnB_ok (by kernel_rfl)⟩
def peer_a (s : Spk) (router : Int) : Prop := okL [.agg [.int s.router, .int s.epoch, .int s.last, .sl 4 (s.items.map Itm.v) false, .sl 3 (s.peers.map Per.v) false], .int router]
def peer_s : Nat → Type
  | _ => Unit
def peer_e (r : Int × Bool) : AV := .tup [.int r.1, .bool r.2]
def peer_vc (s : Spk) (router : Int) (r0 : Int × Bool) : Prop :=
 ∃ h1 : s.peers.Pairwise fun x y => x.router < y.router,
 ∃ h2 : s.peers.length ≤ 1000000,
 Cl (bsP_c s.peers router h1 h2)
 (Rf (peer_e ((posP s.peers router : Int), decide (hitP s.peers router))) (((posP s.peers router : Int), decide (hitP s.peers router)) = r0))
theorem peer_eq (s : Spk) (router : Int) (r0 : Int × Bool) : mxP Try.prog 57 [.agg [.int s.router, .int s.epoch, .int s.last, .sl 4 (s.items.map Itm.v) false, .sl 3 (s.peers.map Per.v) false], .int router] .k peer_e ((.req 96 (s.peers.Pairwise fun x y => x.router < y.router) fun h1 =>
 (.req 96 (s.peers.length ≤ 1000000) fun h2 =>
 (.callP (bsP_c s.peers router h1 h2)
 (.ret ((posP s.peers router : Int), decide (hitP s.peers router)))))) : An Try.prog peer_s (Int × Bool)) r0 = peer_vc s router r0 := by kernel_rfl
theorem peer_ok (s : Spk) (router : Int) (r0 : Int × Bool) (h : peer_vc s router r0) : PSpec Try.prog 57 [.agg [.int s.router, .int s.epoch, .int s.last, .sl 4 (s.items.map Itm.v) false, .sl 3 (s.peers.map Per.v) false], .int router] (peer_e r0) := by
  have e := peer_eq s router r0
  rw [← e] at h
  exact mxP_ok (enc := peer_e) h (AV.pureB_ok rfl)
theorem peer_p (s : Spk) (r : Int) (h : s.peers.Pairwise fun x y => x.router < y.router) (hl : s.peers.length ≤ 1000000) (ok : peer_a s r) : peer_vc s r ((posP s.peers r : Int), decide (hitP s.peers r)) := by
  simp only [peer_vc, vcU, rfU, List.length_map]
  exact ⟨h, hl, trivial⟩
def peer_c (s : Spk) (router : Int) (h : s.peers.Pairwise fun x y => x.router < y.router) (hl : s.peers.length ≤ 1000000) : PC Try.prog := ⟨57, [(.a [.k, .k, .k, (.s 4), (.s 3)]), .k], [.agg [.int s.router, .int s.epoch, .int s.last, .sl 4 (s.items.map Itm.v) false, .sl 3 (s.peers.map Per.v) false], .int router], peer_e ((posP s.peers router : Int), decide (hitP s.peers router)), PSpec.of_ok fun ok => peer_ok s router _ (peer_p s router h hl ok), fnB_ok (by kernel_rfl)⟩
/-! ### Wants -/
def noF (f : Flt) : Bool := f.mode == 1 && (f.srcs.length : Int) == 0
def noF_a (f : Flt) : Prop := okL [.agg [.int f.mode, .sl 1 (f.srcs.map AV.int) false]]
def noF_s : Nat → Type
  | _ => Unit
def noF_e (r : Bool) : AV := .bool r
def noF_vc (f : Flt) (r0 : Bool) : Prop :=
 br (f.mode == 1)
 (Rf (noF_e (((f.srcs.map AV.int).length : Int) == 0)) ((((f.srcs.map AV.int).length : Int) == 0) = r0))
 (Rf (noF_e (false)) ((false) = r0))
theorem noF_eq (f : Flt) (r0 : Bool) : mxP Try.prog 64 [.agg [.int f.mode, .sl 1 (f.srcs.map AV.int) false]] .k noF_e ((.br 96 (.ret (((f.srcs.map AV.int).length : Int) == 0))
 (.ret (false))) : An Try.prog noF_s (Bool)) r0 = noF_vc f r0 := by kernel_rfl
theorem noF_ok (f : Flt) (r0 : Bool) (h : noF_vc f r0) : PSpec Try.prog 64 [.agg [.int f.mode, .sl 1 (f.srcs.map AV.int) false]] (noF_e r0) := by
  have e := noF_eq f r0
  rw [← e] at h
  exact mxP_ok (enc := noF_e) h (AV.pureB_ok rfl)
theorem noF_p (f : Flt) (ok : noF_a f) : noF_vc f (noF f) := by
  simp only [noF_vc, vcU, rfU, List.length_map]
  by_cases h : f.mode = 1 <;> simp [noF, h]
def noF_c (f : Flt) : PC Try.prog := ⟨64, [(.a [.k, (.s 1)])], [.agg [.int f.mode, .sl 1 (f.srcs.map AV.int) false]], noF_e (noF f), PSpec.of_ok fun ok => noF_ok f _ (noF_p f ok), fnB_ok (by kernel_rfl)⟩
def checkW_a (l : (List Wnt)) (changes : Bool) : Prop := okL [.sl 3 (l.map Wnt.v) false, .bool changes]
def checkW_n0 (l : (List Wnt)) (changes : Bool) (t0 : Int) : NF := ⟨[(0, .k, .sl 3 (l.map Wnt.v) false), (1, .k, .bool changes), (16, .k, .sl 3 (l.map Wnt.v) false), (17, .k, .int ((l.map Wnt.v).length : Int)), (18, .k, .int t0)], []⟩
def checkW_n1 (l : (List Wnt)) (changes : Bool) (t0 : Int) (t1 : Int) : NF := ⟨[(0, .k, .sl 3 (l.map Wnt.v) false), (1, .k, .bool changes), (31, .k, .sl 3 (l.map Wnt.v) false), (32, .k, .int ((l.map Wnt.v).length : Int)), (33, .k, .int t1)], []⟩
def checkW_n2 (l : (List Wnt)) (changes : Bool) (t0 : Int) (t1 : Int) (t2 : Int) : NF := ⟨[(0, .k, .sl 3 (l.map Wnt.v) false), (1, .k, .bool changes), (44, .k, .sl 3 (l.map Wnt.v) false), (45, .k, .int ((l.map Wnt.v).length : Int)), (46, .k, .int t2)], []⟩
def checkW_n3 (l : (List Wnt)) (changes : Bool) (t0 : Int) (t1 : Int) (t2 : Int) (t3 : Int) : NF := ⟨[(0, .k, .sl 3 (l.map Wnt.v) false), (12, .k, .int t3)], []⟩
def checkW_s : Nat → Type
  | 0 => Int
  | 1 => Int
  | 2 => Int
  | 3 => Int
  | _ => Unit
def checkW_e (r : Int) : AV := .int r
def checkW_vc (l : (List Wnt)) (changes : Bool) (I0 : Int → Prop) (m0 : Int → Nat) (I1 : Int → Int → Prop) (m1 : Int → Int → Nat) (I2 : Int → Int → Int → Prop) (m2 : Int → Int → Int → Nat) (I3 : Int → Int → Int → Int → Prop) (m3 : Int → Int → Int → Int → Nat) (r0 : Int) : Prop :=
 br (decide (32 < ((l.map Wnt.v).length : Int)))
 (Rf (checkW_e (3)) ((3) = r0))
 (Nf (checkW_n0 l changes (0)) [] (I0 (0)) ∧ ∀ t0 : Int, I0 t0 →
 br (decide (t0 < ((l.map Wnt.v).length : Int)))
 (Rf (l.map Wnt.v) (ck (decide (0 ≤ t0)) (ck (decide (t0 < (l.length : Int)))
 (∀ x1, l[t0.toNat]? = some x1 →
 br (decide (x1.grp < 1))
 (Rf (checkW_e (2)) ((2) = r0))
 (br (decide (99 < x1.grp))
 (Rf (checkW_e (2)) ((2) = r0))
 (Nf (checkW_n0 l changes (W (t0 + 1))) [] (I0 (W (t0 + 1)) ∧ m0 (W (t0 + 1)) < m0 t0)))))))
 (Nf (checkW_n1 l changes t0 (0)) [] (I1 t0 (0)) ∧ ∀ t1 : Int, I1 t0 t1 →
 br (decide (t1 < ((l.map Wnt.v).length : Int)))
 (Rf (l.map Wnt.v) (ck (decide (0 ≤ t1)) (ck (decide (t1 < (l.length : Int)))
 (∀ x2, l[t1.toNat]? = some x2 →
 Cl (PVal_c (⟨x2.mode, x2.srcs⟩ : Flt))
 (br ((fltErr (⟨x2.mode, x2.srcs⟩ : Flt).mode (⟨x2.mode, x2.srcs⟩ : Flt).srcs) != 0)
 (Rf (checkW_e (fltErr (⟨x2.mode, x2.srcs⟩ : Flt).mode (⟨x2.mode, x2.srcs⟩ : Flt).srcs)) ((fltErr (⟨x2.mode, x2.srcs⟩ : Flt).mode (⟨x2.mode, x2.srcs⟩ : Flt).srcs) = r0))
 (Nf (checkW_n1 l changes t0 (W (t1 + 1))) [] (I1 t0 (W (t1 + 1)) ∧ m1 t0 (W (t1 + 1)) < m1 t0 t1)))))))
 (Nf (checkW_n2 l changes t0 t1 (0)) [] (I2 t0 t1 (0)) ∧ ∀ t2 : Int, I2 t0 t1 t2 →
 br (decide (t2 < ((l.map Wnt.v).length : Int)))
 (Rf (l.map Wnt.v) (ck (decide (0 ≤ t2)) (ck (decide (t2 < (l.length : Int)))
 (∀ x3, l[t2.toNat]? = some x3 →
 br (!changes)
 (Cl (noF_c (⟨x3.mode, x3.srcs⟩ : Flt))
 (br (noF (⟨x3.mode, x3.srcs⟩ : Flt))
 (Rf (checkW_e (1)) ((1) = r0))
 (Nf (checkW_n2 l changes t0 t1 (W (t2 + 1))) [] (I2 t0 t1 (W (t2 + 1)) ∧ m2 t0 t1 (W (t2 + 1)) < m2 t0 t1 t2))))
 (Nf (checkW_n2 l changes t0 t1 (W (t2 + 1))) [] (I2 t0 t1 (W (t2 + 1)) ∧ m2 t0 t1 (W (t2 + 1)) < m2 t0 t1 t2))))))
 (Nf (checkW_n3 l changes t0 t1 t2 (1)) [] (I3 t0 t1 t2 (1)) ∧ ∀ t3 : Int, I3 t0 t1 t2 t3 →
 br (decide (t3 < ((l.map Wnt.v).length : Int)))
 (Rf (l.map Wnt.v) (ck (decide (0 ≤ (W (t3 - 1)))) (ck (decide ((W (t3 - 1)) < (l.length : Int)))
 (∀ x4, l[(W (t3 - 1)).toNat]? = some x4 →
 Rf (l.map Wnt.v) (ck (decide (0 ≤ t3)) (ck (decide (t3 < (l.length : Int)))
 (∀ x5, l[t3.toNat]? = some x5 →
 br (decide (x5.grp ≤ x4.grp))
 (Rf (checkW_e (25)) ((25) = r0))
 (Nf (checkW_n3 l changes t0 t1 t2 (W (t3 + 1))) [] (I3 t0 t1 t2 (W (t3 + 1)) ∧ m3 t0 t1 t2 (W (t3 + 1)) < m3 t0 t1 t2 t3)))))))))
 (Rf (checkW_e (0)) ((0) = r0))))))
theorem checkW_eq (l : (List Wnt)) (changes : Bool) (I0 : Int → Prop) (m0 : Int → Nat) (I1 : Int → Int → Prop) (m1 : Int → Int → Nat) (I2 : Int → Int → Int → Prop) (m2 : Int → Int → Int → Nat) (I3 : Int → Int → Int → Int → Prop) (m3 : Int → Int → Int → Int → Nat) (r0 : Int) : mxP Try.prog 60 [.sl 3 (l.map Wnt.v) false, .bool changes] .k checkW_e ((.br 64 (.ret (3))
 (.loop 0 (checkW_n0 l changes) (I0) (m0) ((0) : Int) [] fun (t0 : Int) =>
 (.br 16 (.el 16 Wnt.v l fun x1 =>
 (.br 144 (.ret (2))
 (.br 208 (.ret (2))
 (.back 0 ((W (t0 + 1)) : Int) []))))
 (.loop 1 (checkW_n1 l changes t0) (I1 t0) (m1 t0) ((0) : Int) [] fun (t1 : Int) =>
 (.br 16 (.el 16 Wnt.v l fun x2 =>
 (.callP (PVal_c (⟨x2.mode, x2.srcs⟩ : Flt))
 (.br 176 (.ret (fltErr (⟨x2.mode, x2.srcs⟩ : Flt).mode (⟨x2.mode, x2.srcs⟩ : Flt).srcs))
 (.back 1 ((W (t1 + 1)) : Int) []))))
 (.loop 2 (checkW_n2 l changes t0 t1) (I2 t0 t1) (m2 t0 t1) ((0) : Int) [] fun (t2 : Int) =>
 (.br 16 (.el 16 Wnt.v l fun x3 =>
 (.br 128 (.callP (noF_c (⟨x3.mode, x3.srcs⟩ : Flt))
 (.br 192 (.ret (1))
 (.back 2 ((W (t2 + 1)) : Int) [])))
 (.back 2 ((W (t2 + 1)) : Int) [])))
 (.loop 3 (checkW_n3 l changes t0 t1 t2) (I3 t0 t1 t2) (m3 t0 t1 t2) ((1) : Int) [] fun (t3 : Int) =>
 (.br 64 (.el 112 Wnt.v l fun x4 =>
 (.el 192 Wnt.v l fun x5 =>
 (.br 256 (.ret (25))
 (.back 3 ((W (t3 + 1)) : Int) []))))
 (.ret (0))))))))))) : An Try.prog checkW_s (Int)) r0 = checkW_vc l changes I0 m0 I1 m1 I2 m2 I3 m3 r0 := by kernel_rfl
theorem checkW_ok (l : (List Wnt)) (changes : Bool) (I0 : Int → Prop) (m0 : Int → Nat) (I1 : Int → Int → Prop) (m1 : Int → Int → Nat) (I2 : Int → Int → Int → Prop) (m2 : Int → Int → Int → Nat) (I3 : Int → Int → Int → Int → Prop) (m3 : Int → Int → Int → Int → Nat) (r0 : Int) (h : checkW_vc l changes I0 m0 I1 m1 I2 m2 I3 m3 r0) : PSpec Try.prog 60 [.sl 3 (l.map Wnt.v) false, .bool changes] (checkW_e r0) := by
  have e := checkW_eq l changes I0 m0 I1 m1 I2 m2 I3 m3 r0
  rw [← e] at h
  exact mxP_ok (enc := checkW_e) h (AV.pureB_ok rfl)
theorem orI_at {α : Type} {l : List α} {f : α → Int} {k : Nat} {x : α} (h : ∀ y ∈ l.take k, f y = 0) (hx : l[k]? = some x) (hn : f x ≠ 0) : orI (l.map f) = f x := by
  rw [orI, find_at (k := k) (x := f x)]
  · rfl
  · intro y hy
    rw [← List.map_take] at hy
    obtain ⟨z, hz, rfl⟩ := List.mem_map.mp hy
    simp [h z hz]
  · rw [List.getElem?_map, hx]; rfl
  · simpa using hn
theorem orI_all {α : Type} {l : List α} {f : α → Int} (h : ∀ y ∈ l, f y = 0) : orI (l.map f) = 0 := by
  rw [orI, List.find?_eq_none.mpr]; · rfl
  intro x hx; obtain ⟨z, hz, rfl⟩ := List.mem_map.mp hx; simp [h z hz]
theorem all_take {α : Type} {P : α → Prop} {l : List α} {k : Nat} {x : α} (h : ∀ y ∈ l.take k, P y) (hx : l[k]? = some x) (hp : P x) : ∀ y ∈ l.take (k + 1), P y := by
  rw [take_succ hx]
  intro z hz
  rcases List.mem_append.mp hz with hz | hz
  · exact h z hz
  · rw [List.mem_singleton] at hz; subst hz; exact hp
theorem checkW_p (l : List Wnt) (chg : Bool) (ok : checkW_a l chg) : ∃ I0 m0 I1 m1 I2 m2 I3 m3, checkW_vc l chg I0 m0 I1 m1 I2 m2 I3 m3 (wErr chg l) := by
  let R : Prop := ∀ w ∈ l, 1 ≤ w.grp ∧ w.grp ≤ 99
  let F : Prop := ∀ w ∈ l, fltErr w.mode w.srcs = 0
  let N : Prop := chg = false → ∀ w ∈ l, ¬ isNoW w
  refine ⟨fun t => ∃ k : Nat, t = k ∧ k ≤ l.length ∧ ∀ w ∈ l.take k, 1 ≤ w.grp ∧ w.grp ≤ 99, fun t => l.length - t.toNat,
    fun _ t => R ∧ ∃ k : Nat, t = k ∧ k ≤ l.length ∧ ∀ w ∈ l.take k, fltErr w.mode w.srcs = 0, fun _ t => l.length - t.toNat,
    fun _ _ t => R ∧ F ∧ ∃ k : Nat, t = k ∧ k ≤ l.length ∧ ∀ w ∈ l.take k, chg = false → ¬ isNoW w, fun _ _ t => l.length - t.toNat,
    fun _ _ _ t => R ∧ F ∧ N ∧ ∃ k : Nat, t = k ∧ 1 ≤ k ∧ k ≤ l.length + 1 ∧ ∀ j x y, j + 1 < k → l[j]? = some x → l[j + 1]? = some y → x.grp < y.grp, fun _ _ _ t => l.length + 1 - t.toNat, ?_⟩
  simp only [checkW_vc, vcU, rfU, List.length_map]
  have hno : ∀ x : Wnt, noF ⟨x.mode, x.srcs⟩ = true ↔ isNoW x := fun x => by simp [noF, isNoW]
  refine ⟨fun e => by rw [wErr, if_pos (by omega)], fun e0 => ⟨⟨0, rfl, by omega, by simp⟩, ?_⟩⟩
  have e0 : ¬ 32 < l.length := by omega
  rintro _ ⟨k, rfl, hk, h⟩
  simp only [Int.toNat_natCast]
  refine ⟨fun h1 => ⟨by omega, by omega, fun x hx => ?_⟩, fun h1 => ?_⟩
  · have bad : ¬ (1 ≤ x.grp ∧ x.grp ≤ 99) → 2 = wErr chg l := fun h => by
      rw [wErr, if_neg e0, if_pos fun h' => h (h' x (mem_of_get hx))]
    refine ⟨fun e => bad (by omega), fun e1 => ⟨fun e => bad (by omega), fun e2 => ?_⟩⟩
    rw [W_succ (n := l.length) (by omega) (by omega)]
    exact ⟨⟨k + 1, rfl, by omega, all_take h hx ⟨by omega, by omega⟩⟩, by omega⟩
  rw [List.take_of_length_le (by omega)] at h
  have hR : R := h
  have w1 : wErr chg l = if wFErrs l ≠ 0 then wFErrs l else if chg = false ∧ ∃ w ∈ l, isNoW w then 1 else if ¬ (l.Pairwise fun x y => x.grp < y.grp) then 25 else 0 := by
    rw [wErr, if_neg e0, if_neg (fun h => h hR)]
  clear h h1 hk k
  refine ⟨⟨hR, 0, rfl, by omega, by simp⟩, ?_⟩
  rintro _ ⟨-, k, rfl, hk, h⟩
  simp only [Int.toNat_natCast]
  refine ⟨fun h1 => ⟨by omega, by omega, fun x hx => ⟨fun e => ?_, fun e => ?_⟩⟩, fun h1 => ?_⟩
  · have e : fltErr x.mode x.srcs ≠ 0 := by simpa using e
    have : wFErrs l = fltErr x.mode x.srcs := orI_at (f := fun x : Wnt => fltErr x.mode x.srcs) h hx e
    rw [w1, this, if_pos e]
  · rw [W_succ (n := l.length) (by omega) (by omega)]
    exact ⟨⟨hR, k + 1, rfl, by omega, all_take h hx (by simpa using e)⟩, by omega⟩
  rw [List.take_of_length_le (by omega)] at h
  have hF : F := h
  have w2 : wErr chg l = if chg = false ∧ ∃ w ∈ l, isNoW w then 1 else if ¬ (l.Pairwise fun x y => x.grp < y.grp) then 25 else 0 := by
    rw [w1, if_neg (fun hh => hh (orI_all hF))]
  clear h h1 hk k
  refine ⟨⟨hR, hF, 0, rfl, by omega, by simp⟩, ?_⟩
  rintro _ ⟨-, -, k, rfl, hk, h⟩
  simp only [Int.toNat_natCast]
  refine ⟨fun h1 => ⟨by omega, by omega, fun x hx => ?_⟩, fun h1 => ?_⟩
  · have step : (chg = false → ¬ isNoW x) → (R ∧ F ∧ ∃ k' : Nat, W ((k : Int) + 1) = k' ∧ k' ≤ l.length ∧ ∀ w ∈ l.take k', chg = false → ¬ isNoW w) ∧ l.length - (W ((k : Int) + 1)).toNat < l.length - k := by
      intro hs
      rw [W_succ (n := l.length) (by omega) (by omega)]
      exact ⟨⟨hR, hF, k + 1, rfl, by omega, all_take h hx hs⟩, by omega⟩
    refine ⟨fun e => ⟨fun e2 => ?_, fun e2 => step fun _ hn => ?_⟩, fun e => step fun hc => ?_⟩
    · rw [w2, if_pos ⟨by simpa using e, x, mem_of_get hx, (hno x).mp e2⟩]
    · rw [(hno x).mpr hn] at e2; cases e2
    · simp [hc] at e
  rw [List.take_of_length_le (by omega)] at h
  have hN : N := fun hc w hw => h w hw hc
  have w3 : wErr chg l = if ¬ (l.Pairwise fun x y => x.grp < y.grp) then 25 else 0 := by
    rw [w2, if_neg (fun ⟨hc, w, hw, hn⟩ => hN hc w hw hn)]
  clear h h1 hk k
  refine ⟨⟨hR, hF, hN, 1, rfl, by omega, by omega, fun j x y hj => by omega⟩, ?_⟩
  rintro _ ⟨-, -, -, k, rfl, hk1, hk, h⟩
  refine ⟨fun h1 => ?_, fun h1 => ?_⟩
  · rw [W_pred (by omega) hk1]
    simp only [Int.toNat_natCast]
    refine ⟨by omega, by omega, fun x hx => ⟨by omega, by omega, fun y hy => ⟨fun e => ?_, fun e => ?_⟩⟩⟩
    · rw [w3, if_pos]
      intro hp
      have : x.grp < y.grp := pw_get hp (show k - 1 < k by omega) hx hy
      omega
    · rw [W_succ (n := l.length) (by omega) (by omega)]
      refine ⟨⟨hR, hF, hN, k + 1, rfl, by omega, by omega, fun j x' y' hj hx' hy' => ?_⟩, by omega⟩
      by_cases e' : j + 1 = k
      · subst e'
        rw [show j + 1 - 1 = j by omega, hx'] at hx; cases hx
        rw [hy'] at hy; cases hy; omega
      · exact h j x' y' (by omega) hx' hy'
  · rw [w3, if_neg]
    exact fun hh => hh (pw_adj fun j x y hx hy => h j x y (by have := lt_of_get hy; omega) hx hy)
def checkW_c (l : (List Wnt)) (changes : Bool) : PC Try.prog := ⟨60, [(.s 3), .k], [.sl 3 (l.map Wnt.v) false, .bool changes], checkW_e (wErr changes l), PSpec.of_ok fun ok => (checkW_p l changes ok).elim fun I0 h => h.elim fun m0 h => h.elim fun I1 h => h.elim fun m1 h => h.elim fun I2 h => h.elim fun m2 h => h.elim fun I3 h => h.elim fun m3 h => checkW_ok l changes I0 m0 I1 m1 I2 m2 I3 m3 _ h, fnB_ok (by kernel_rfl)⟩
def valW_a (l : (List Wnt)) : Prop := okL [.sl 3 (l.map Wnt.v) false]
def valW_s : Nat → Type
  | _ => Unit
def valW_e (r : Int) : AV := .int r
def valW_vc (l : (List Wnt)) (r0 : Int) : Prop :=
 Cl (checkW_c l false)
 (Rf (valW_e (wErr false l)) ((wErr false l) = r0))
theorem valW_eq (l : (List Wnt)) (r0 : Int) : mxP Try.prog 59 [.sl 3 (l.map Wnt.v) false] .k valW_e ((.callP (checkW_c l false)
 (.ret (wErr false l))) : An Try.prog valW_s (Int)) r0 = valW_vc l r0 := by kernel_rfl
theorem valW_ok (l : (List Wnt)) (r0 : Int) (h : valW_vc l r0) : PSpec Try.prog 59 [.sl 3 (l.map Wnt.v) false] (valW_e r0) := by
  have e := valW_eq l r0
  rw [← e] at h
  exact mxP_ok (enc := valW_e) h (AV.pureB_ok rfl)
theorem valW_p (l : List Wnt) (ok : valW_a l) : valW_vc l (wErr false l) := by
  simp only [valW_vc, vcU, rfU, List.length_map]
def valW_c (l : (List Wnt)) : PC Try.prog := ⟨59, [(.s 3)], [.sl 3 (l.map Wnt.v) false], valW_e (wErr false l), PSpec.of_ok fun ok => valW_ok l _ (valW_p l ok), fnB_ok (by kernel_rfl)⟩
def copiedW (w : Wnt) : Wnt := w
def copiedW_a (w : Wnt) : Prop := okL [.agg [.int w.grp, .int w.mode, .sl 1 (w.srcs.map AV.int) false]]
def copiedW_s : Nat → Type
  | _ => Unit
def copiedW_e (r : Wnt) : AV := Wnt.v r
def copiedW_vc (w : Wnt) (r0 : Wnt) : Prop :=
 ∃ h1 : w.srcs.length ≤ 1000000,
 Cl (cloneI_c w.srcs h1)
 (Rf (copiedW_e (w)) ((w) = r0))
theorem copiedW_eq (w : Wnt) (r0 : Wnt) : mxP Try.prog 63 [.agg [.int w.grp, .int w.mode, .sl 1 (w.srcs.map AV.int) false]] (.a [.k, .k, (.s 1)]) copiedW_e ((.req 80 (w.srcs.length ≤ 1000000) fun h1 =>
 (.callP (cloneI_c w.srcs h1)
 (.ret (w)))) : An Try.prog copiedW_s (Wnt)) r0 = copiedW_vc w r0 := by kernel_rfl
theorem copiedW_ok (w : Wnt) (r0 : Wnt) (h : copiedW_vc w r0) : PSpec Try.prog 63 [.agg [.int w.grp, .int w.mode, .sl 1 (w.srcs.map AV.int) false]] (copiedW_e r0) := by
  have e := copiedW_eq w r0
  rw [← e] at h
  exact mxP_ok (enc := copiedW_e) h (AV.pureB_ok rfl)
theorem copiedW_p (w : Wnt) (h : w.srcs.length ≤ 1000000) (ok : copiedW_a w) : copiedW_vc w w := by
  simp only [copiedW_vc, vcU, rfU, List.length_map]
  exact ⟨h, trivial⟩
def copiedW_c (w : Wnt) (h : w.srcs.length ≤ 1000000) : PC Try.prog := ⟨63, [(.a [.k, .k, (.s 1)])], [.agg [.int w.grp, .int w.mode, .sl 1 (w.srcs.map AV.int) false]], copiedW_e w, PSpec.of_ok fun ok => copiedW_ok w _ (copiedW_p w h ok), fnB_ok (by kernel_rfl)⟩
end Go.Proofs.Ytglfecmdoekabaa
