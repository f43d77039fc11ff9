/- Changes to a list of wants. -/
import Derived.Test.YtglfecmdoekabaaG23
namespace Go.Proofs.Ytglfecmdoekabaa
open Go Go.Am
set_option linter.unusedVariables false
set_option linter.unusedSimpArgs false
def changesL_a (t : (List Int)) : Prop := okL [.sl 1 (t.map AV.int) false]
def changesL_n0 (t : (List Int)) (t0 : Tap) : NF := ⟨[(3, .k, .ref 0 0)], [.box (.agg [.sl 1 (t0.L.map AV.int) false, .int ((t0.p : Nat) : Int)])]⟩
def changesL_n1 (t : (List Int)) (t0 : Tap) (t1 : Spk) : NF := ⟨[(3, .k, .ref 0 0), (4, .k, .ref 1 0)], [.box (.agg [.sl 1 (t0.L.map AV.int) false, .int ((((spkT t0.L t0.p).2) : Nat) : Int)]), .box (.agg [.int t1.router, .int t1.epoch, .int t1.last, .sl 4 (t1.items.map Itm.v) false, .sl 3 (t1.peers.map Per.v) false])]⟩
def changesL_n2 (t : (List Int)) (t0 : Tap) (t1 : Spk) (t2 : (List Wnt)) : NF := ⟨[(3, .k, .ref 0 0), (4, .k, .ref 1 0), (5, (.s 3), .sl 3 (t2.map Wnt.v) false)], [.box (.agg [.sl 1 (t0.L.map AV.int) false, .int ((((spkT t0.L t0.p).2) : Nat) : Int)]), .box (.agg [.int t1.router, .int t1.epoch, .int t1.last, .sl 4 (t1.items.map Itm.v) false, .sl 3 (t1.peers.map Per.v) false])]⟩
def changesL_n3 (t : (List Int)) (t0 : Tap) (t1 : Spk) (t2 : (List Wnt)) (t3 : (List Wnt)) : NF := ⟨[(4, .k, .ref 0 0), (5, .k, .sl 3 (t2.map Wnt.v) false), (6, (.s 3), .sl 3 (t3.map Wnt.v) false)], [.box (.agg [.int t1.router, .int t1.epoch, .int t1.last, .sl 4 (t1.items.map Itm.v) false, .sl 3 (t1.peers.map Per.v) false])]⟩
def changesL_n4 (t : (List Int)) (t0 : Tap) (t1 : Spk) (t2 : (List Wnt)) (t3 : (List Wnt)) (t4 : (List Wnt) × Int) : NF := ⟨[(4, .k, .ref 0 0), (6, .k, .sl 3 (t3.map Wnt.v) false), (7, (.s 3), .sl 3 (t4.1.map Wnt.v) false), (8, .k, .int t4.2)], [.box (.agg [.int t1.router, .int t1.epoch, .int t1.last, .sl 4 (t1.items.map Itm.v) false, .sl 3 (t1.peers.map Per.v) false])]⟩
def changesL_n5 (t : (List Int)) (t0 : Tap) (t1 : Spk) (t2 : (List Wnt)) (t3 : (List Wnt)) (t4 : (List Wnt) × Int) (t5 : Int × Spk) : NF := ⟨[(4, .k, .ref 0 0), (6, .k, .sl 3 (t3.map Wnt.v) false), (7, .k, .sl 3 (t4.1.map Wnt.v) false), (9, .k, .ref 1 0), (10, .k, .int t5.1)], [.box (.agg [.int t1.router, .int t1.epoch, .int t1.last, .sl 4 (t1.items.map Itm.v) false, .sl 3 (t1.peers.map Per.v) false]), .box (.agg [.int t5.2.router, .int t5.2.epoch, .int t5.2.last, .sl 4 (t5.2.items.map Itm.v) false, .sl 3 (t5.2.peers.map Per.v) false])]⟩
def changesL_n6 (t : (List Int)) (t0 : Tap) (t1 : Spk) (t2 : (List Wnt)) (t3 : (List Wnt)) (t4 : (List Wnt) × Int) (t5 : Int × Spk) (t6 : Bool) : NF := ⟨[(4, .k, .ref 0 0), (7, .k, .sl 3 (t4.1.map Wnt.v) false), (9, .k, .ref 1 0), (72, .k, .bool t6)], [.box (.agg [.int t1.router, .int t1.epoch, .int t1.last, .sl 4 (t1.items.map Itm.v) false, .sl 3 (t1.peers.map Per.v) false]), .box (.agg [.int t5.2.router, .int t5.2.epoch, .int t5.2.last, .sl 4 (t5.2.items.map Itm.v) false, .sl 3 (t5.2.peers.map Per.v) false])]⟩
def changesL_n7 (t : (List Int)) (t0 : Tap) (t1 : Spk) (t2 : (List Wnt)) (t3 : (List Wnt)) (t4 : (List Wnt) × Int) (t5 : Int × Spk) (t6 : Bool) (t7 : Int × Spk) : NF := ⟨[(4, .k, .ref 0 0), (7, .k, .sl 3 (t4.1.map Wnt.v) false), (9, .k, .ref 1 0), (11, .k, .ref 2 0), (12, .k, .int t7.1)], [.box (.agg [.int t1.router, .int t1.epoch, .int t1.last, .sl 4 (t1.items.map Itm.v) false, .sl 3 (t1.peers.map Per.v) false]), .box (.agg [.int t5.2.router, .int t5.2.epoch, .int t5.2.last, .sl 4 (t5.2.items.map Itm.v) false, .sl 3 (t5.2.peers.map Per.v) false]), .box (.agg [.int t7.2.router, .int t7.2.epoch, .int t7.2.last, .sl 4 (t7.2.items.map Itm.v) false, .sl 3 (t7.2.peers.map Per.v) false])]⟩
def changesL_n8 (t : (List Int)) (t0 : Tap) (t1 : Spk) (t2 : (List Wnt)) (t3 : (List Wnt)) (t4 : (List Wnt) × Int) (t5 : Int × Spk) (t6 : Bool) (t7 : Int × Spk) (t8 : Bool) : NF := ⟨[(4, .k, .ref 0 0), (7, .k, .sl 3 (t4.1.map Wnt.v) false), (9, .k, .ref 1 0), (86, .k, .bool t8)], [.box (.agg [.int t1.router, .int t1.epoch, .int t1.last, .sl 4 (t1.items.map Itm.v) false, .sl 3 (t1.peers.map Per.v) false]), .box (.agg [.int t5.2.router, .int t5.2.epoch, .int t5.2.last, .sl 4 (t5.2.items.map Itm.v) false, .sl 3 (t5.2.peers.map Per.v) false])]⟩
def changesL_n9 (t : (List Int)) (t0 : Tap) (t1 : Spk) (t2 : (List Wnt)) (t3 : (List Wnt)) (t4 : (List Wnt) × Int) (t5 : Int × Spk) (t6 : Bool) (t7 : Int × Spk) (t8 : Bool) (t9 : Int) : NF := ⟨[(7, .k, .sl 3 (t4.1.map Wnt.v) false), (9, .k, .ref 0 0), (88, .k, .sl 4 (t1.items.map Itm.v) false), (89, .k, .int ((t1.items.map Itm.v).length : Int)), (90, .k, .int t9)], [.box (.agg [.int t5.2.router, .int t5.2.epoch, .int t5.2.last, .sl 4 (t5.2.items.map Itm.v) false, .sl 3 (t5.2.peers.map Per.v) false])]⟩
def changesL_n10 (t : (List Int)) (t0 : Tap) (t1 : Spk) (t2 : (List Wnt)) (t3 : (List Wnt)) (t4 : (List Wnt) × Int) (t5 : Int × Spk) (t6 : Bool) (t7 : Int × Spk) (t8 : Bool) (t9 : Int) (x1 : Itm) (t10 : Bool × Int) : NF := ⟨[(7, .k, .sl 3 (t4.1.map Wnt.v) false), (9, .k, .ref 0 0), (14, .k, .ref 1 0), (15, .k, .bool t10.1), (88, .k, .sl 4 (t1.items.map Itm.v) false), (89, .k, .int ((t1.items.map Itm.v).length : Int)), (90, .k, .int t9), (94, .k, .sl 3 (t4.1.map Wnt.v) false), (95, .k, .int ((t4.1.map Wnt.v).length : Int)), (96, .k, .int t10.2)], [.box (.agg [.int t5.2.router, .int t5.2.epoch, .int t5.2.last, .sl 4 (t5.2.items.map Itm.v) false, .sl 3 (t5.2.peers.map Per.v) false]), .box (.agg [.int x1.ver, .int x1.grp, .int x1.mode, .sl 1 (x1.srcs.map AV.int) false])]⟩
def changesL_n11 (t : (List Int)) (t0 : Tap) (t1 : Spk) (t2 : (List Wnt)) (t3 : (List Wnt)) (t4 : (List Wnt) × Int) (t5 : Int × Spk) (t6 : Bool) (t7 : Int × Spk) (t8 : Bool) (t9 : Int) (x1 : Itm) (t10 : Bool × Int) (t11 : Bool × Int) : NF := ⟨[(7, .k, .sl 3 (t4.1.map Wnt.v) false), (9, .k, .ref 0 0), (14, .k, .ref 1 0), (15, .k, .bool t10.1), (18, .k, .bool t11.1), (88, .k, .sl 4 (t1.items.map Itm.v) false), (89, .k, .int ((t1.items.map Itm.v).length : Int)), (90, .k, .int t9), (110, .k, .sl 4 (t5.2.items.map Itm.v) false), (111, .k, .int ((t5.2.items.map Itm.v).length : Int)), (112, .k, .int t11.2)], [.box (.agg [.int t5.2.router, .int t5.2.epoch, .int t5.2.last, .sl 4 (t5.2.items.map Itm.v) false, .sl 3 (t5.2.peers.map Per.v) false]), .box (.agg [.int x1.ver, .int x1.grp, .int x1.mode, .sl 1 (x1.srcs.map AV.int) false])]⟩
def changesL_s : Nat → Type
  | 0 => Tap
  | 1 => Spk
  | 2 => (List Wnt)
  | 3 => (List Wnt)
  | 4 => (List Wnt) × Int
  | 5 => Int × Spk
  | 6 => Bool
  | 7 => Int × Spk
  | 8 => Bool
  | 9 => Int
  | 10 => Bool × Int
  | 11 => Bool × Int
  | _ => Unit
def changesL_e (r : Bool) : AV := .bool r
def changesL_vc (t : (List Int)) (I6 : Tap → Spk → (List Wnt) → (List Wnt) → (List Wnt) × Int → Int × Spk → Bool → Prop) (I8 : Tap → Spk → (List Wnt) → (List Wnt) → (List Wnt) × Int → Int × Spk → Bool → Int × Spk → Bool → Prop) (I9 : Tap → Spk → (List Wnt) → (List Wnt) → (List Wnt) × Int → Int × Spk → Bool → Int × Spk → Bool → Int → Prop) (m9 : Tap → Spk → (List Wnt) → (List Wnt) → (List Wnt) × Int → Int × Spk → Bool → Int × Spk → Bool → Int → Nat) (I10 : Tap → Spk → (List Wnt) → (List Wnt) → (List Wnt) × Int → Int × Spk → Bool → Int × Spk → Bool → Int → Itm → (Bool × Int) → Prop) (m10 : Tap → Spk → (List Wnt) → (List Wnt) → (List Wnt) × Int → Int × Spk → Bool → Int × Spk → Bool → Int → Itm → (Bool × Int) → Nat) (I11 : Tap → Spk → (List Wnt) → (List Wnt) → (List Wnt) × Int → Int × Spk → Bool → Int × Spk → Bool → Int → Itm → Bool × Int → (Bool × Int) → Prop) (m11 : Tap → Spk → (List Wnt) → (List Wnt) → (List Wnt) × Int → Int × Spk → Bool → Int × Spk → Bool → Int → Itm → Bool × Int → (Bool × Int) → Nat) (r0 : Bool) : Prop :=
 (Ch (New_h t) [] 32
 (Nf (changesL_n0 t ((⟨t.take 2000, 0⟩ : Tap))) [32] ((((⟨t.take 2000, 0⟩ : Tap)) : Tap) = (((⟨t.take 2000, 0⟩ : Tap)) : Tap)))) ∧ ∀ t0 : Tap, t0 = (((⟨t.take 2000, 0⟩ : Tap)) : Tap) →
 (Ch (spkT_h t0.L t0.p) [0] 17
 (Nf (changesL_n1 t t0 ((spkT t0.L t0.p).1)) [0, 33] ((((spkT t0.L t0.p).1) : Spk) = (((spkT t0.L t0.p).1) : Spk)))) ∧ ∀ t1 : Spk, t1 = (((spkT t0.L t0.p).1) : Spk) →
 (Cl (wantsR_c t1.items)
 (Nf (changesL_n2 t t0 t1 (wantsOf t1.items)) [0, 1] (((wantsOf t1.items) : (List Wnt)) = ((wantsOf t1.items) : (List Wnt))))) ∧ ∀ t2 : (List Wnt), t2 = ((wantsOf t1.items) : (List Wnt)) →
 (Ch (wantsT_h t0.L ((spkT t0.L t0.p).2)) [0] 18
 (Nf (changesL_n3 t t0 t1 t2 ((wantsT t0.L ((spkT t0.L t0.p).2)).1)) [1] ((((wantsT t0.L ((spkT t0.L t0.p).2)).1) : (List Wnt)) = (((wantsT t0.L ((spkT t0.L t0.p).2)).1) : (List Wnt))))) ∧ ∀ t3 : (List Wnt), t3 = (((wantsT t0.L ((spkT t0.L t0.p).2)).1) : (List Wnt)) →
 (Cl (chgsR_c t2 t3)
 (Nf (changesL_n4 t t0 t1 t2 t3 ((changes t2 t3).1, (changes t2 t3).2)) [0] ((((changes t2 t3).1, (changes t2 t3).2) : (List Wnt) × Int) = (((changes t2 t3).1, (changes t2 t3).2) : (List Wnt) × Int)))) ∧ ∀ t4 : (List Wnt) × Int, t4 = (((changes t2 t3).1, (changes t2 t3).2) : (List Wnt) × Int) →
 br (t4.2 != 0)
 (Cl (awake_c )
 (Rf (changesL_e (true)) ((true) = r0)))
 ((Cl (change_c t1 t4.1)
 (Nf (changesL_n5 t t0 t1 t2 t3 t4 ((change t1 t4.1).2, (change t1 t4.1).1)) [0, 129] ((((change t1 t4.1).2, (change t1 t4.1).1) : Int × Spk) = (((change t1 t4.1).2, (change t1 t4.1).1) : Int × Spk)))) ∧ ∀ t5 : Int × Spk, t5 = (((change t1 t4.1).2, (change t1 t4.1).1) : Int × Spk) →
 br (t5.1 != 0)
 (br (t5.1 == 3)
 (Cl (awake_c )
 (Rf (changesL_e (true)) ((true) = r0)))
 (Rf (changesL_e (false)) ((false) = r0)))
 ((Cl (wantsF_c t5.2.items)
 (Cl (sameW_c (wantsOf t5.2.items) t3)
 (br (!(decide ((wantsOf t5.2.items) = t3)))
 (Nf (changesL_n6 t t0 t1 t2 t3 t4 t5 (true)) [0, 1] (I6 t0 t1 t2 t3 t4 t5 ((true) : Bool)))
 (br (t5.2.last != (W (t1.last + ((t4.1.map Wnt.v).length : Int))))
 (Nf (changesL_n6 t t0 t1 t2 t3 t4 t5 (true)) [0, 1] (I6 t0 t1 t2 t3 t4 t5 ((true) : Bool)))
 (Cl (valS_c t5.2)
 (Nf (changesL_n6 t t0 t1 t2 t3 t4 t5 ((valS t5.2) != 0)) [0, 1] (I6 t0 t1 t2 t3 t4 t5 (((valS t5.2) != 0) : Bool)))))))) ∧ ∀ t6 : Bool, I6 t0 t1 t2 t3 t4 t5 t6 →
 br t6
 (Rf (changesL_e (false)) ((false) = r0))
 ((Cl (change_c t5.2 t4.1)
 (Nf (changesL_n7 t t0 t1 t2 t3 t4 t5 t6 ((change t5.2 t4.1).2, (change t5.2 t4.1).1)) [0, 1, 98] ((((change t5.2 t4.1).2, (change t5.2 t4.1).1) : Int × Spk) = (((change t5.2 t4.1).2, (change t5.2 t4.1).1) : Int × Spk)))) ∧ ∀ t7 : Int × Spk, t7 = (((change t5.2 t4.1).2, (change t5.2 t4.1).1) : Int × Spk) →
 (br (t7.1 != 0)
 (Nf (changesL_n8 t t0 t1 t2 t3 t4 t5 t6 t7 (true)) [0, 1] (I8 t0 t1 t2 t3 t4 t5 t6 t7 ((true) : Bool)))
 (Cl (sameS_c t7.2 t5.2)
 (Nf (changesL_n8 t t0 t1 t2 t3 t4 t5 t6 t7 (!(decide (t7.2 = t5.2)))) [0, 1] (I8 t0 t1 t2 t3 t4 t5 t6 t7 ((!(decide (t7.2 = t5.2))) : Bool))))) ∧ ∀ t8 : Bool, I8 t0 t1 t2 t3 t4 t5 t6 t7 t8 →
 br t8
 (Rf (changesL_e (false)) ((false) = r0))
 (Nf (changesL_n9 t t0 t1 t2 t3 t4 t5 t6 t7 t8 (0)) [1] (I9 t0 t1 t2 t3 t4 t5 t6 t7 t8 (0)) ∧ ∀ t9 : Int, I9 t0 t1 t2 t3 t4 t5 t6 t7 t8 t9 →
 br (decide (t9 < ((t1.items.map Itm.v).length : Int)))
 (Rf (t1.items.map Itm.v) (ck (decide (0 ≤ t9)) (ck (decide (t9 < (t1.items.length : Int)))
 (∀ x1, t1.items[t9.toNat]? = some x1 →
 Nf (changesL_n10 t t0 t1 t2 t3 t4 t5 t6 t7 t8 t9 x1 (false, 0)) [0, 49] (I10 t0 t1 t2 t3 t4 t5 t6 t7 t8 t9 x1 (false, 0)) ∧ ∀ t10 : Bool × Int, I10 t0 t1 t2 t3 t4 t5 t6 t7 t8 t9 x1 t10 →
 br (decide (t10.2 < ((t4.1.map Wnt.v).length : Int)))
 (Rf (t4.1.map Wnt.v) (ck (decide (0 ≤ t10.2)) (ck (decide (t10.2 < (t4.1.length : Int)))
 (∀ x2, t4.1[t10.2.toNat]? = some x2 →
 br t10.1
 (Nf (changesL_n10 t t0 t1 t2 t3 t4 t5 t6 t7 t8 t9 x1 (true, W (t10.2 + 1))) [0, 1] (I10 t0 t1 t2 t3 t4 t5 t6 t7 t8 t9 x1 (true, W (t10.2 + 1)) ∧ m10 t0 t1 t2 t3 t4 t5 t6 t7 t8 t9 x1 (true, W (t10.2 + 1)) < m10 t0 t1 t2 t3 t4 t5 t6 t7 t8 t9 x1 t10))
 (Nf (changesL_n10 t t0 t1 t2 t3 t4 t5 t6 t7 t8 t9 x1 (x2.grp == x1.grp, W (t10.2 + 1))) [0, 1] (I10 t0 t1 t2 t3 t4 t5 t6 t7 t8 t9 x1 (x2.grp == x1.grp, W (t10.2 + 1)) ∧ m10 t0 t1 t2 t3 t4 t5 t6 t7 t8 t9 x1 (x2.grp == x1.grp, W (t10.2 + 1)) < m10 t0 t1 t2 t3 t4 t5 t6 t7 t8 t9 x1 t10))))))
 (Nf (changesL_n11 t t0 t1 t2 t3 t4 t5 t6 t7 t8 t9 x1 t10 (false, 0)) [0, 1] (I11 t0 t1 t2 t3 t4 t5 t6 t7 t8 t9 x1 t10 (false, 0)) ∧ ∀ t11 : Bool × Int, I11 t0 t1 t2 t3 t4 t5 t6 t7 t8 t9 x1 t10 t11 →
 br (decide (t11.2 < ((t5.2.items.map Itm.v).length : Int)))
 (Rf (t5.2.items.map Itm.v) (ck (decide (0 ≤ t11.2)) (ck (decide (t11.2 < (t5.2.items.length : Int)))
 (∀ x3, t5.2.items[t11.2.toNat]? = some x3 →
 br t11.1
 (Nf (changesL_n11 t t0 t1 t2 t3 t4 t5 t6 t7 t8 t9 x1 t10 (true, W (t11.2 + 1))) [0, 1] (I11 t0 t1 t2 t3 t4 t5 t6 t7 t8 t9 x1 t10 (true, W (t11.2 + 1)) ∧ m11 t0 t1 t2 t3 t4 t5 t6 t7 t8 t9 x1 t10 (true, W (t11.2 + 1)) < m11 t0 t1 t2 t3 t4 t5 t6 t7 t8 t9 x1 t10 t11))
 (Cl (sameI_c [x1] [x3])
 (Nf (changesL_n11 t t0 t1 t2 t3 t4 t5 t6 t7 t8 t9 x1 t10 (decide ([x1] = [x3]), W (t11.2 + 1))) [0, 1] (I11 t0 t1 t2 t3 t4 t5 t6 t7 t8 t9 x1 t10 (decide ([x1] = [x3]), W (t11.2 + 1)) ∧ m11 t0 t1 t2 t3 t4 t5 t6 t7 t8 t9 x1 t10 (decide ([x1] = [x3]), W (t11.2 + 1)) < m11 t0 t1 t2 t3 t4 t5 t6 t7 t8 t9 x1 t10 t11)))))))
 (br (t11.1 == t10.1)
 (Rf (changesL_e (false)) ((false) = r0))
 (Nf (changesL_n9 t t0 t1 t2 t3 t4 t5 t6 t7 t8 (W (t9 + 1))) [0] (I9 t0 t1 t2 t3 t4 t5 t6 t7 t8 (W (t9 + 1)) ∧ m9 t0 t1 t2 t3 t4 t5 t6 t7 t8 (W (t9 + 1)) < m9 t0 t1 t2 t3 t4 t5 t6 t7 t8 t9))))))))
 (Cl (awake_c )
 (Rf (changesL_e (true)) ((true) = r0)))))))
theorem changesL_eq (t : (List Int)) (I6 : Tap → Spk → (List Wnt) → (List Wnt) → (List Wnt) × Int → Int × Spk → Bool → Prop) (I8 : Tap → Spk → (List Wnt) → (List Wnt) → (List Wnt) × Int → Int × Spk → Bool → Int × Spk → Bool → Prop) (I9 : Tap → Spk → (List Wnt) → (List Wnt) → (List Wnt) × Int → Int × Spk → Bool → Int × Spk → Bool → Int → Prop) (m9 : Tap → Spk → (List Wnt) → (List Wnt) → (List Wnt) × Int → Int × Spk → Bool → Int × Spk → Bool → Int → Nat) (I10 : Tap → Spk → (List Wnt) → (List Wnt) → (List Wnt) × Int → Int × Spk → Bool → Int × Spk → Bool → Int → Itm → (Bool × Int) → Prop) (m10 : Tap → Spk → (List Wnt) → (List Wnt) → (List Wnt) × Int → Int × Spk → Bool → Int × Spk → Bool → Int → Itm → (Bool × Int) → Nat) (I11 : Tap → Spk → (List Wnt) → (List Wnt) → (List Wnt) × Int → Int × Spk → Bool → Int × Spk → Bool → Int → Itm → Bool × Int → (Bool × Int) → Prop) (m11 : Tap → Spk → (List Wnt) → (List Wnt) → (List Wnt) × Int → Int × Spk → Bool → Int × Spk → Bool → Int → Itm → Bool × Int → (Bool × Int) → Nat) (r0 : Bool) : mxP Try.prog 3 [.sl 1 (t.map AV.int) false] .k changesL_e ((.pass (.join 0 (changesL_n0 t) (fun t0 => t0 = (((⟨t.take 2000, 0⟩ : Tap)) : Tap)) (.callH [] (New_h t)
 (.back 0 (((⟨t.take 2000, 0⟩ : Tap)) : Tap) [32])) fun (t0 : Tap) =>
 (.join 1 (changesL_n1 t t0) (fun t1 => t1 = (((spkT t0.L t0.p).1) : Spk)) (.callH [0] (spkT_h t0.L t0.p)
 (.back 1 (((spkT t0.L t0.p).1) : Spk) [0, 33])) fun (t1 : Spk) =>
 (.join 2 (changesL_n2 t t0 t1) (fun t2 => t2 = ((wantsOf t1.items) : (List Wnt))) (.callP (wantsR_c t1.items)
 (.back 2 ((wantsOf t1.items) : (List Wnt)) [0, 1])) fun (t2 : (List Wnt)) =>
 (.join 3 (changesL_n3 t t0 t1 t2) (fun t3 => t3 = (((wantsT t0.L ((spkT t0.L t0.p).2)).1) : (List Wnt))) (.callH [0] (wantsT_h t0.L ((spkT t0.L t0.p).2))
 (.back 3 (((wantsT t0.L ((spkT t0.L t0.p).2)).1) : (List Wnt)) [1])) fun (t3 : (List Wnt)) =>
 (.join 4 (changesL_n4 t t0 t1 t2 t3) (fun t4 => t4 = (((changes t2 t3).1, (changes t2 t3).2) : (List Wnt) × Int)) (.callP (chgsR_c t2 t3)
 (.back 4 (((changes t2 t3).1, (changes t2 t3).2) : (List Wnt) × Int) [0])) fun (t4 : (List Wnt) × Int) =>
 (.br 33 (.callP (awake_c )
 (.ret (true)))
 (.join 5 (changesL_n5 t t0 t1 t2 t3 t4) (fun t5 => t5 = (((change t1 t4.1).2, (change t1 t4.1).1) : Int × Spk)) (.callP (change_c t1 t4.1)
 (.back 5 (((change t1 t4.1).2, (change t1 t4.1).1) : Int × Spk) [0, 129])) fun (t5 : Int × Spk) =>
 (.br 34 (.br 82 (.callP (awake_c )
 (.ret (true)))
 (.ret (false)))
 (.pass (.join 6 (changesL_n6 t t0 t1 t2 t3 t4 t5) (fun t6 => I6 t0 t1 t2 t3 t4 t5 t6) (.callP (wantsF_c t5.2.items)
 (.callP (sameW_c (wantsOf t5.2.items) t3)
 (.br 146 (.back 6 ((true) : Bool) [0, 1])
 (.br 306 (.back 6 ((true) : Bool) [0, 1])
 (.callP (valS_c t5.2)
 (.back 6 (((valS t5.2) != 0) : Bool) [0, 1])))))) fun (t6 : Bool) =>
 (.br 2 (.ret (false))
 (.join 7 (changesL_n7 t t0 t1 t2 t3 t4 t5 t6) (fun t7 => t7 = (((change t5.2 t4.1).2, (change t5.2 t4.1).1) : Int × Spk)) (.callP (change_c t5.2 t4.1)
 (.back 7 (((change t5.2 t4.1).2, (change t5.2 t4.1).1) : Int × Spk) [0, 1, 98])) fun (t7 : Int × Spk) =>
 (.pass (.join 8 (changesL_n8 t t0 t1 t2 t3 t4 t5 t6 t7) (fun t8 => I8 t0 t1 t2 t3 t4 t5 t6 t7 t8) (.br 51 (.back 8 ((true) : Bool) [0, 1])
 (.callP (sameS_c t7.2 t5.2)
 (.back 8 ((!(decide (t7.2 = t5.2))) : Bool) [0, 1]))) fun (t8 : Bool) =>
 (.br 2 (.ret (false))
 (.loop 9 (changesL_n9 t t0 t1 t2 t3 t4 t5 t6 t7 t8) (I9 t0 t1 t2 t3 t4 t5 t6 t7 t8) (m9 t0 t1 t2 t3 t4 t5 t6 t7 t8) ((0) : Int) [1] fun (t9 : Int) =>
 (.br 17 (.el 17 Itm.v t1.items fun x1 =>
 (.loop 10 (changesL_n10 t t0 t1 t2 t3 t4 t5 t6 t7 t8 t9 x1) (I10 t0 t1 t2 t3 t4 t5 t6 t7 t8 t9 x1) (m10 t0 t1 t2 t3 t4 t5 t6 t7 t8 t9 x1) ((false, 0) : Bool × Int) [0, 49] fun (t10 : Bool × Int) =>
 (.br 18 (.el 18 Wnt.v t4.1 fun x2 =>
 (.br 114 (.back 10 ((true, W (t10.2 + 1)) : Bool × Int) [0, 1])
 (.back 10 ((x2.grp == x1.grp, W (t10.2 + 1)) : Bool × Int) [0, 1])))
 (.loop 11 (changesL_n11 t t0 t1 t2 t3 t4 t5 t6 t7 t8 t9 x1 t10) (I11 t0 t1 t2 t3 t4 t5 t6 t7 t8 t9 x1 t10) (m11 t0 t1 t2 t3 t4 t5 t6 t7 t8 t9 x1 t10) ((false, 0) : Bool × Int) [0, 1] fun (t11 : Bool × Int) =>
 (.br 18 (.el 18 Itm.v t5.2.items fun x3 =>
 (.br 114 (.back 11 ((true, W (t11.2 + 1)) : Bool × Int) [0, 1])
 (.callP (sameI_c [x1] [x3])
 (.back 11 ((decide ([x1] = [x3]), W (t11.2 + 1)) : Bool × Int) [0, 1]))))
 (.br 66 (.ret (false))
 (.back 9 ((W (t9 + 1)) : Int) [0])))))))
 (.callP (awake_c )
 (.ret (true))))))))))))))))))))) : An Try.prog changesL_s (Bool)) r0 = changesL_vc t I6 I8 I9 m9 I10 m10 I11 m11 r0 := by kernel_rfl
theorem changesL_ok (t : (List Int)) (I6 : Tap → Spk → (List Wnt) → (List Wnt) → (List Wnt) × Int → Int × Spk → Bool → Prop) (I8 : Tap → Spk → (List Wnt) → (List Wnt) → (List Wnt) × Int → Int × Spk → Bool → Int × Spk → Bool → Prop) (I9 : Tap → Spk → (List Wnt) → (List Wnt) → (List Wnt) × Int → Int × Spk → Bool → Int × Spk → Bool → Int → Prop) (m9 : Tap → Spk → (List Wnt) → (List Wnt) → (List Wnt) × Int → Int × Spk → Bool → Int × Spk → Bool → Int → Nat) (I10 : Tap → Spk → (List Wnt) → (List Wnt) → (List Wnt) × Int → Int × Spk → Bool → Int × Spk → Bool → Int → Itm → (Bool × Int) → Prop) (m10 : Tap → Spk → (List Wnt) → (List Wnt) → (List Wnt) × Int → Int × Spk → Bool → Int × Spk → Bool → Int → Itm → (Bool × Int) → Nat) (I11 : Tap → Spk → (List Wnt) → (List Wnt) → (List Wnt) × Int → Int × Spk → Bool → Int × Spk → Bool → Int → Itm → Bool × Int → (Bool × Int) → Prop) (m11 : Tap → Spk → (List Wnt) → (List Wnt) → (List Wnt) × Int → Int × Spk → Bool → Int × Spk → Bool → Int → Itm → Bool × Int → (Bool × Int) → Nat) (r0 : Bool) (h : changesL_vc t I6 I8 I9 m9 I10 m10 I11 m11 r0) : PSpec Try.prog 3 [.sl 1 (t.map AV.int) false] (changesL_e r0) := by
  have e := changesL_eq t I6 I8 I9 m9 I10 m10 I11 m11 r0
  rw [← e] at h
  exact mxP_ok (enc := changesL_e) h (AV.pureB_ok rfl)
theorem changesL_p (t : List Int) (ok : changesL_a t) : ∃ I6 I8 I9 m9 I10 m10 I11 m11, changesL_vc t I6 I8 I9 m9 I10 m10 I11 m11 true := by
  refine ⟨fun _ _ _ _ _ _ x => x = false, fun _ _ _ _ _ _ _ _ x => x = false, fun _ t1 _ _ _ _ _ _ _ x => ∃ k : Nat, x = k ∧ k ≤ t1.items.length, fun _ t1 _ _ _ _ _ _ _ x => t1.items.length - x.toNat,
    fun _ _ _ _ t4 _ _ _ _ _ x1 y => ∃ k : Nat, y = (decide (∃ z ∈ t4.1.take k, z.grp = x1.grp), (k : Int)) ∧ k ≤ t4.1.length, fun _ _ _ _ t4 _ _ _ _ _ _ y => t4.1.length - y.2.toNat,
    fun _ _ _ _ _ t5 _ _ _ _ x1 _ y => ∃ k : Nat, y = (decide (x1 ∈ t5.2.items.take k), (k : Int)) ∧ k ≤ t5.2.items.length, fun _ _ _ _ _ t5 _ _ _ _ _ _ y => t5.2.items.length - y.2.toNat, ?_⟩
  have ha := spkT_k (L := t.take 2000) (p := 0)
  simp only [changesL_vc, vcU, rfU, List.length_map]
  refine ⟨trivial, ?_⟩
  rintro t0 h0
  refine ⟨trivial, ?_⟩
  rintro a e1
  have ha : spkOk a := by rw [e1, h0]; exact ha
  refine ⟨trivial, ?_⟩
  rintro _ rfl
  refine ⟨trivial, ?_⟩
  rintro w _
  refine ⟨trivial, ?_⟩
  rintro _ rfl
  refine ⟨fun _ => trivial, fun h4 => ⟨trivial, ?_⟩⟩
  have h4 : (changes (wantsOf a.items) w).2 = 0 := by simpa using h4
  obtain ⟨_, _, c3, _⟩ := changes_val h4
  have hd := fun h => change_to (w := w) ha h4 h
  simp only
  generalize (changes (wantsOf a.items) w).1 = c at *
  rintro _ rfl
  have he := change_err ha c3
  refine ⟨fun h5 => ⟨fun _ => trivial, fun h6 => ?_⟩, fun h5 => ?_⟩
  · have h5 : ¬ (change a c).2 = 0 := by simpa using h5
    have h6 : ¬ (change a c).2 = 3 := by simpa using h6
    omega
  have h5 : (change a c).2 = 0 := by simpa using h5
  have d := hd h5
  simp only
  generalize (change a c).1 = b at *
  have hl := ha.2.2.1
  have hcl := (wErr_zero.mp c3).1
  have hbl : b.items.length ≤ 99 := itms_len d.ok.2.2.2.1
  have hal : a.items.length ≤ 99 := itms_len ha.2.2.2.1
  refine ⟨⟨fun q => ?_, fun _ => ⟨fun q => ?_, fun _ => ?_⟩⟩, ?_⟩
  · rw [d.wants] at q; simp at q
  · rw [d.last, W_eq (by omega)] at q; simp at q
  · rw [show valS b = 0 from if_pos d.ok]; rfl
  rintro _ rfl
  refine ⟨fun q => by simp at q, fun _ => ⟨trivial, ?_⟩⟩
  rintro _ rfl
  rw [d.again]
  refine ⟨⟨by simp, by simp⟩, ?_⟩
  rintro _ rfl
  refine ⟨by simp, fun _ => ⟨⟨0, rfl, by omega⟩, ?_⟩⟩
  rintro _ ⟨k, rfl, hk⟩
  simp only [Int.toNat_natCast]
  refine ⟨fun h9 => ⟨by omega, by omega, fun x hx => ⟨⟨0, by simp, by omega⟩, ?_⟩⟩, fun _ => trivial⟩
  rintro _ ⟨m, rfl, hm⟩
  simp only [Int.toNat_natCast]
  refine ⟨fun h10 => ⟨by omega, by omega, fun y hy => ?_⟩, fun h10 => ?_⟩
  · rw [W_succ (n := c.length) (by omega) (by omega)]
    refine ⟨fun q => ⟨⟨m + 1, ?_, by omega⟩, by omega⟩, fun q => ⟨⟨m + 1, ?_, by omega⟩, by omega⟩⟩
    · have q : ∃ z ∈ c.take m, z.grp = x.grp := of_decide_eq_true q
      obtain ⟨z, hz, e⟩ := q
      rw [decide_eq_true ⟨z, by rw [take_succ hy]; exact List.mem_append_left _ hz, e⟩]
    · have q : ¬ ∃ z ∈ c.take m, z.grp = x.grp := of_decide_eq_false q
      refine Prod.ext ?_ rfl
      simp only
      rw [Bool.eq_iff_iff, beq_iff_eq, decide_eq_true_iff, take_succ hy]
      constructor
      · intro e; exact ⟨y, by simp, e⟩
      · rintro ⟨z, hz, e⟩
        rcases List.mem_append.mp hz with hz | hz
        · exact absurd ⟨z, hz, e⟩ q
        · rw [List.mem_singleton] at hz; rw [← hz]; exact e
  · have hm : m = c.length := by omega
    subst hm
    rw [List.take_length]
    refine ⟨⟨0, by simp, by omega⟩, ?_⟩
    rintro _ ⟨n, rfl, hn⟩
    simp only [Int.toNat_natCast]
    refine ⟨fun h11 => ⟨by omega, by omega, fun z hz => ?_⟩, fun h11 => ?_⟩
    · rw [W_succ (n := b.items.length) (by omega) (by omega)]
      refine ⟨fun q => ⟨⟨n + 1, ?_, by omega⟩, by omega⟩, fun q => ⟨⟨n + 1, ?_, by omega⟩, by omega⟩⟩
      · have q : x ∈ b.items.take n := of_decide_eq_true q
        rw [decide_eq_true (p := x ∈ b.items.take (n + 1)) (by rw [take_succ hz]; exact List.mem_append_left _ q)]
      · have q : ¬ x ∈ b.items.take n := of_decide_eq_false q
        refine Prod.ext ?_ rfl
        simp only
        refine decide_eq_decide.mpr ?_
        rw [take_succ hz, List.mem_append, List.mem_singleton]
        exact ⟨fun e => .inr (by simpa using e), fun e => e.elim (fun e => absurd e q) fun e => by rw [e]⟩
    · have hn : n = b.items.length := by omega
      rw [hn, List.take_length]
      have st := d.stay x (mem_of_get hx)
      refine ⟨fun q => ?_, fun _ => ?_⟩
      · exfalso
        have q : (x ∈ b.items) ↔ ∃ z, z ∈ c ∧ z.grp = x.grp := by
          have := eq_of_beq q
          exact decide_eq_decide.mp this
        have st : x ∈ b.items ↔ ¬ ∃ z, z ∈ c ∧ z.grp = x.grp := st
        by_cases w : x ∈ b.items
        · exact st.mp w (q.mp w)
        · exact w (st.mpr fun e => w (q.mpr e))
      · rw [W_succ (n := a.items.length) (by omega) (by omega)]
        exact ⟨⟨k + 1, rfl, by omega⟩, by omega⟩
def changesL_c (t : (List Int)) : PC Try.prog := ⟨3, [(.s 1)], [.sl 1 (t.map AV.int) false], changesL_e true, PSpec.of_ok fun ok => (changesL_p t ok).elim fun I6 h => h.elim fun I8 h => h.elim fun I9 h => h.elim fun m9 h => h.elim fun I10 h => h.elim fun m10 h => h.elim fun I11 h => h.elim fun m11 h => changesL_ok t I6 I8 I9 m9 I10 m10 I11 m11 _ h, fnB_ok (by kernel_rfl)⟩
end Go.Proofs.Ytglfecmdoekabaa
