/- The exchange. -/
import Derived.Test.YtglfecmdoekabaaGreatDoorU2
namespace Go.Proofs.YtglfecmdoekabaaGreatDoor
open Go Go.Am
set_option linter.unusedVariables false
set_option linter.unusedSimpArgs false
def exch_a (L : (List Int)) (p : Nat) (n : Int) (restarts : Bool) : Prop := okL [.ref 0 0, .int n, .bool restarts] ∧ (.box (.agg [.sl 1 (L.map AV.int) false, .int ((p : Nat) : Int)]) : Blk).ok
def exch_n0 (L : (List Int)) (p : Nat) (n : Int) (restarts : Bool) (t0 : Int × Int × Spk × Nat × Lsn × (List Sig)) : NF := ⟨[(0, .k, .ref 0 0), (1, .k, .int n), (2, .k, .bool restarts), (6, .k, .ref 1 0), (7, .k, .ref 2 0), (9, .k, .ref 3 0), (10, .k, .int t0.1), (11, .k, .ref 4 0), (12, .k, .vec 5), (13, .k, .int t0.2.1)], [.box (.agg [.sl 1 (L.map AV.int) false, .int ((t0.2.2.2.1 : Nat) : Int)]), .box (.agg [.int 0, .int 0, .int 0, .sl 0 [] true, .sl 0 [] true]), .box (.agg [.int 0, .int 0, .sl 0 [] true]), .box (.agg [.int t0.2.2.1.router, .int t0.2.2.1.epoch, .int t0.2.2.1.last, .sl 4 (t0.2.2.1.items.map Itm.v) false, .sl 3 (t0.2.2.1.peers.map Per.v) false]), .box (.agg [.int t0.2.2.2.2.1.router, .int t0.2.2.2.2.1.epoch, .sl 4 (t0.2.2.2.2.1.heard.map Hrd.v) false]), .vec 10 (t0.2.2.2.2.2.map Sig.v) (pureBL_map (fun _ => rfl) t0.2.2.2.2.2)]⟩
def exch_n1 (L : (List Int)) (p : Nat) (n : Int) (restarts : Bool) (t0 : Int × Int × Spk × Nat × Lsn × (List Sig)) (t1 : Int × (List Sig) × Spk × Nat × Lsn) : NF := ⟨[(0, .k, .ref 0 0), (1, .k, .int n), (2, .k, .bool restarts), (6, .k, .ref 1 0), (7, .k, .ref 2 0), (9, .k, .ref 3 0), (10, .k, .int t1.1), (11, .k, .ref 4 0), (12, .k, .vec 5), (13, .k, .int t0.2.1), (32, .k, .int t0.1), (33, .k, .bool (t0.1 == 0))], [.box (.agg [.sl 1 (L.map AV.int) false, .int ((t1.2.2.2.1 : Nat) : Int)]), .box (.agg [.int 0, .int 0, .int 0, .sl 0 [] true, .sl 0 [] true]), .box (.agg [.int 0, .int 0, .sl 0 [] true]), .box (.agg [.int t1.2.2.1.router, .int t1.2.2.1.epoch, .int t1.2.2.1.last, .sl 4 (t1.2.2.1.items.map Itm.v) false, .sl 3 (t1.2.2.1.peers.map Per.v) false]), .box (.agg [.int t1.2.2.2.2.router, .int t1.2.2.2.2.epoch, .sl 4 (t1.2.2.2.2.heard.map Hrd.v) false]), .vec 10 (t1.2.1.map Sig.v) (pureBL_map (fun _ => rfl) t1.2.1)]⟩
def exch_n2 (L : (List Int)) (p : Nat) (n : Int) (restarts : Bool) (t0 : Int × Int × Spk × Nat × Lsn × (List Sig)) (x2 : Sig) (t2 : (List Sig)) : NF := ⟨[(0, .k, .ref 0 0), (1, .k, .int n), (2, .k, .bool restarts), (6, .k, .ref 1 0), (7, .k, .ref 2 0), (9, .k, .ref 3 0), (11, .k, .ref 4 0), (12, .k, .vec 5), (13, .k, .int t0.2.1), (18, .k, .ref 6 0), (32, .k, .int t0.1), (33, .k, .bool (t0.1 == 0)), (65, .k, .bool restarts)], [.box (.agg [.sl 1 (L.map AV.int) false, .int (((rawP L (rawP L (rawP L t0.2.2.2.1))) : Nat) : Int)]), .box (.agg [.int 0, .int 0, .int 0, .sl 0 [] true, .sl 0 [] true]), .box (.agg [.int 0, .int 0, .sl 0 [] true]), .box (.agg [.int t0.2.2.1.router, .int t0.2.2.1.epoch, .int t0.2.2.1.last, .sl 4 (t0.2.2.1.items.map Itm.v) false, .sl 3 (t0.2.2.1.peers.map Per.v) false]), .box (.agg [.int t0.2.2.2.2.1.router, .int t0.2.2.2.2.1.epoch, .sl 4 (t0.2.2.2.2.1.heard.map Hrd.v) false]), .vec 10 (t2.map Sig.v) (pureBL_map (fun _ => rfl) t2), .box (.agg [.int x2.kind, .int x2.src, .int x2.dst, .int x2.epoch, .int x2.ver, .int x2.prev, .int x2.pep, .int x2.grp, .int x2.mode, .sl 1 (x2.srcs.map AV.int) false])]⟩
def exch_n3 (L : (List Int)) (p : Nat) (n : Int) (restarts : Bool) (t0 : Int × Int × Spk × Nat × Lsn × (List Sig)) (x3 : Sig) (t3 : (List Sig)) : NF := ⟨[(0, .k, .ref 0 0), (1, .k, .int n), (2, .k, .bool restarts), (6, .k, .ref 1 0), (7, .k, .ref 2 0), (9, .k, .ref 3 0), (11, .k, .ref 4 0), (12, .k, .vec 5), (13, .k, .int t0.2.1), (18, .k, .ref 6 0), (32, .k, .int t0.1), (33, .k, .bool (t0.1 == 0))], [.box (.agg [.sl 1 (L.map AV.int) false, .int (((rawP L (rawP L (rawP L t0.2.2.2.1))) : Nat) : Int)]), .box (.agg [.int 0, .int 0, .int 0, .sl 0 [] true, .sl 0 [] true]), .box (.agg [.int 0, .int 0, .sl 0 [] true]), .box (.agg [.int t0.2.2.1.router, .int t0.2.2.1.epoch, .int t0.2.2.1.last, .sl 4 (t0.2.2.1.items.map Itm.v) false, .sl 3 (t0.2.2.1.peers.map Per.v) false]), .box (.agg [.int t0.2.2.2.2.1.router, .int t0.2.2.2.2.1.epoch, .sl 4 (t0.2.2.2.2.1.heard.map Hrd.v) false]), .vec 10 (t3.map Sig.v) (pureBL_map (fun _ => rfl) t3), .box (.agg [.int x3.kind, .int x3.src, .int x3.dst, .int x3.epoch, .int x3.ver, .int x3.prev, .int x3.pep, .int x3.grp, .int x3.mode, .sl 1 (x3.srcs.map AV.int) false])]⟩
def exch_s : Nat → Type
  | 0 => Int × Int × Spk × Nat × Lsn × (List Sig)
  | 1 => Int × (List Sig) × Spk × Nat × Lsn
  | 2 => (List Sig)
  | 3 => (List Sig)
  | _ => Unit
def exch_e (r : Tap × Spk × Lsn × Bool) : AV := .tup [.agg [.int r.2.1.router, .int r.2.1.epoch, .int r.2.1.last, .sl 4 (r.2.1.items.map Itm.v) false, .sl 3 (r.2.1.peers.map Per.v) false], .agg [.int r.2.2.1.router, .int r.2.2.1.epoch, .sl 4 (r.2.2.1.heard.map Hrd.v) false], .bool r.2.2.2]
def exch_b (r : Tap × Spk × Lsn × Bool) : List (Option Blk) := [some (.box (.agg [.sl 1 (r.1.L.map AV.int) false, .int ((r.1.p : Nat) : Int)]))]
def exch_vc (L : (List Int)) (p : Nat) (n : Int) (restarts : Bool) (I0 : (Int × Int × Spk × Nat × Lsn × (List Sig)) → Prop) (m0 : (Int × Int × Spk × Nat × Lsn × (List Sig)) → Nat) (I1 : Int × Int × Spk × Nat × Lsn × (List Sig) → (Int × (List Sig) × Spk × Nat × Lsn) → Prop) (r0 : Tap × Spk × Lsn × Bool) : Prop :=
 ∃ h1 : [2].length ≤ 1000000,
 Cl (new_c 1 1 [2] h1)
 (Nf (exch_n0 L p n restarts ((new 1 1 [2]).2, 0, (new 1 1 [2]).1, p, (⟨2, 1, []⟩ : Lsn), [])) [0, 1, 17, 129, 193, 257] (I0 ((new 1 1 [2]).2, 0, (new 1 1 [2]).1, p, (⟨2, 1, []⟩ : Lsn), [])) ∧ ∀ t0 : Int × Int × Spk × Nat × Lsn × (List Sig), I0 t0 →
 br (decide (t0.2.1 < n))
 (br (t0.1 == 0)
 ((Ch (N_h L t0.2.2.2.1 8) [0] 134
 (br (decide ((Mod (rawV L t0.2.2.2.1) 8) < 2))
 (Ch (chgT_h L (rawP L t0.2.2.2.1)) [0] 246
 (Cl (change_c t0.2.2.1 ((chgT L (rawP L t0.2.2.2.1)).1))
 (Nf (exch_n1 L p n restarts t0 ((change t0.2.2.1 ((chgT L (rawP L t0.2.2.2.1)).1)).2, t0.2.2.2.2.2, (change t0.2.2.1 ((chgT L (rawP L t0.2.2.2.1)).1)).1, (chgT L (rawP L t0.2.2.2.1)).2, t0.2.2.2.2.1)) [0, 1, 2, 3, 4, 5] (I1 t0 (((change t0.2.2.1 ((chgT L (rawP L t0.2.2.2.1)).1)).2, t0.2.2.2.2.2, (change t0.2.2.1 ((chgT L (rawP L t0.2.2.2.1)).1)).1, (chgT L (rawP L t0.2.2.2.1)).2, t0.2.2.2.2.1) : Int × (List Sig) × Spk × Nat × Lsn)))))
 (br (decide ((Mod (rawV L t0.2.2.2.1) 8) < 4))
 (Cl (send_c t0.2.2.1 2)
 (Rf (α := List AV) (t0.2.2.2.2.2.map Sig.v) (Rf (α := List AV) (((send t0.2.2.1 2).1).map Sig.v)
 (ck (decide (t0.2.2.2.2.2.length + ((send t0.2.2.1 2).1).length ≤ 1000000))
 (Nf (exch_n1 L p n restarts t0 ((send t0.2.2.1 2).2, t0.2.2.2.2.2 ++ ((send t0.2.2.1 2).1), t0.2.2.1, rawP L t0.2.2.2.1, t0.2.2.2.2.1)) [0, 1, 2, 3, 4, 438] (I1 t0 (((send t0.2.2.1 2).2, t0.2.2.2.2.2 ++ ((send t0.2.2.1 2).1), t0.2.2.1, rawP L t0.2.2.2.1, t0.2.2.2.2.1) : Int × (List Sig) × Spk × Nat × Lsn)))))))
 (br ((Mod (rawV L t0.2.2.2.1) 8) == 7)
 (br restarts
 (Ch (N_h L (rawP L t0.2.2.2.1) 2) [0] 374
 (br ((Mod (rawV L (rawP L t0.2.2.2.1)) 2) == 0)
 (Ch (wantsT_h L (rawP L (rawP L t0.2.2.2.1))) [0] 438
 (Cl (restart_c t0.2.2.1 ((wantsT L (rawP L (rawP L t0.2.2.2.1))).1))
 (Nf (exch_n1 L p n restarts t0 ((restart t0.2.2.1 ((wantsT L (rawP L (rawP L t0.2.2.2.1))).1)).2, t0.2.2.2.2.2, (restart t0.2.2.1 ((wantsT L (rawP L (rawP L t0.2.2.2.1))).1)).1, (wantsT L (rawP L (rawP L t0.2.2.2.1))).2, t0.2.2.2.2.1)) [0, 1, 2, 3, 4, 5] (I1 t0 (((restart t0.2.2.1 ((wantsT L (rawP L (rawP L t0.2.2.2.1))).1)).2, t0.2.2.2.2.2, (restart t0.2.2.1 ((wantsT L (rawP L (rawP L t0.2.2.2.1))).1)).1, (wantsT L (rawP L (rawP L t0.2.2.2.1))).2, t0.2.2.2.2.1) : Int × (List Sig) × Spk × Nat × Lsn)))))
 (Nf (exch_n1 L p n restarts t0 (t0.1, t0.2.2.2.2.2, t0.2.2.1, rawP L (rawP L t0.2.2.2.1), (⟨2, W (t0.2.2.2.2.1.epoch + 1), []⟩ : Lsn))) [0, 1, 2, 3, 4, 5] (I1 t0 ((t0.1, t0.2.2.2.2.2, t0.2.2.1, rawP L (rawP L t0.2.2.2.1), (⟨2, W (t0.2.2.2.2.1.epoch + 1), []⟩ : Lsn)) : Int × (List Sig) × Spk × Nat × Lsn)))))
 (br (decide (0 < ((t0.2.2.2.2.2.map Sig.v).length : Int)))
 (Ch (N_h L (rawP L t0.2.2.2.1) ((t0.2.2.2.2.2.map Sig.v).length : Int)) [0] 470
 (ck (cond (decide (0 ≤ (Mod (rawV L (rawP L t0.2.2.2.1)) ((t0.2.2.2.2.2.map Sig.v).length : Int)))) (decide ((Mod (rawV L (rawP L t0.2.2.2.1)) ((t0.2.2.2.2.2.map Sig.v).length : Int)) < ((t0.2.2.2.2.2.map Sig.v).length : Int))) false)
 (Rf (t0.2.2.2.2.2.map Sig.v) (ck (decide ((Mod (rawV L (rawP L t0.2.2.2.1)) ((t0.2.2.2.2.2.map Sig.v).length : Int)).toNat < t0.2.2.2.2.2.length))
 (∀ x2, t0.2.2.2.2.2[(Mod (rawV L (rawP L t0.2.2.2.1)) ((t0.2.2.2.2.2.map Sig.v).length : Int)).toNat]? = some x2 →
 (Ch (N_h L (rawP L (rawP L t0.2.2.2.1)) 4) [0] 614
 (br (decide (0 < (Mod (rawV L (rawP L (rawP L t0.2.2.2.1))) 4)))
 (Rf (t0.2.2.2.2.2.map Sig.v) (ck (decide (0 < t0.2.2.2.2.2.length))
 (ck (bndB t0.2.2.2.2.2.length 0 (Mod (rawV L (rawP L t0.2.2.2.1)) ((t0.2.2.2.2.2.map Sig.v).length : Int)) (t0.2.2.2.2.2.length : Int))
 (ck (decide (0 + ((Mod (rawV L (rawP L t0.2.2.2.1)) ((t0.2.2.2.2.2.map Sig.v).length : Int)) - 0).toNat ≤ (t0.2.2.2.2.2.map Sig.v).length))
 (Rf (α := List AV) [] (((((t0.2.2.2.2.2.map Sig.v).drop 0).take (((Mod (rawV L (rawP L t0.2.2.2.1)) ((t0.2.2.2.2.2.map Sig.v).length : Int)) - 0).toNat)) = ((t0.2.2.2.2.2.drop 0).take (((Mod (rawV L (rawP L t0.2.2.2.1)) ((t0.2.2.2.2.2.map Sig.v).length : Int)) - 0).toNat)).map Sig.v) ∧
 (ck (decide (0 + ((t0.2.2.2.2.2.drop 0).take (((Mod (rawV L (rawP L t0.2.2.2.1)) ((t0.2.2.2.2.2.map Sig.v).length : Int)) - 0).toNat)).length ≤ 1000000))
 (Rf (t0.2.2.2.2.2.map Sig.v) (ck (decide (0 < t0.2.2.2.2.2.length))
 (ck (bndB t0.2.2.2.2.2.length (W ((Mod (rawV L (rawP L t0.2.2.2.1)) ((t0.2.2.2.2.2.map Sig.v).length : Int)) + 1)) (t0.2.2.2.2.2.length : Int) (t0.2.2.2.2.2.length : Int))
 (ck (decide ((W ((Mod (rawV L (rawP L t0.2.2.2.1)) ((t0.2.2.2.2.2.map Sig.v).length : Int)) + 1)).toNat + ((t0.2.2.2.2.2.length : Int) - (W ((Mod (rawV L (rawP L t0.2.2.2.1)) ((t0.2.2.2.2.2.map Sig.v).length : Int)) + 1))).toNat ≤ (t0.2.2.2.2.2.map Sig.v).length))
 (Rf (α := List AV) (((t0.2.2.2.2.2.drop 0).take (((Mod (rawV L (rawP L t0.2.2.2.1)) ((t0.2.2.2.2.2.map Sig.v).length : Int)) - 0).toNat)).map Sig.v) (((((t0.2.2.2.2.2.map Sig.v).drop ((W ((Mod (rawV L (rawP L t0.2.2.2.1)) ((t0.2.2.2.2.2.map Sig.v).length : Int)) + 1)).toNat)).take (((t0.2.2.2.2.2.length : Int) - (W ((Mod (rawV L (rawP L t0.2.2.2.1)) ((t0.2.2.2.2.2.map Sig.v).length : Int)) + 1))).toNat)) = ((t0.2.2.2.2.2.drop ((W ((Mod (rawV L (rawP L t0.2.2.2.1)) ((t0.2.2.2.2.2.map Sig.v).length : Int)) + 1)).toNat)).take (((t0.2.2.2.2.2.length : Int) - (W ((Mod (rawV L (rawP L t0.2.2.2.1)) ((t0.2.2.2.2.2.map Sig.v).length : Int)) + 1))).toNat)).map Sig.v) ∧
 (ck (decide (((t0.2.2.2.2.2.drop 0).take (((Mod (rawV L (rawP L t0.2.2.2.1)) ((t0.2.2.2.2.2.map Sig.v).length : Int)) - 0).toNat)).length + ((t0.2.2.2.2.2.drop ((W ((Mod (rawV L (rawP L t0.2.2.2.1)) ((t0.2.2.2.2.2.map Sig.v).length : Int)) + 1)).toNat)).take (((t0.2.2.2.2.2.length : Int) - (W ((Mod (rawV L (rawP L t0.2.2.2.1)) ((t0.2.2.2.2.2.map Sig.v).length : Int)) + 1))).toNat)).length ≤ 1000000))
 (Nf (exch_n2 L p n restarts t0 x2 (((t0.2.2.2.2.2.drop 0).take (((Mod (rawV L (rawP L t0.2.2.2.1)) ((t0.2.2.2.2.2.map Sig.v).length : Int)) - 0).toNat)) ++ ((t0.2.2.2.2.2.drop ((W ((Mod (rawV L (rawP L t0.2.2.2.1)) ((t0.2.2.2.2.2.map Sig.v).length : Int)) + 1)).toNat)).take (((t0.2.2.2.2.2.length : Int) - (W ((Mod (rawV L (rawP L t0.2.2.2.1)) ((t0.2.2.2.2.2.map Sig.v).length : Int)) + 1))).toNat)))) [0, 1, 2, 3, 4, 790, 566] (((((t0.2.2.2.2.2.drop 0).take (((Mod (rawV L (rawP L t0.2.2.2.1)) ((t0.2.2.2.2.2.map Sig.v).length : Int)) - 0).toNat)) ++ ((t0.2.2.2.2.2.drop ((W ((Mod (rawV L (rawP L t0.2.2.2.1)) ((t0.2.2.2.2.2.map Sig.v).length : Int)) + 1)).toNat)).take (((t0.2.2.2.2.2.length : Int) - (W ((Mod (rawV L (rawP L t0.2.2.2.1)) ((t0.2.2.2.2.2.map Sig.v).length : Int)) + 1))).toNat))) : (List Sig)) = ((bif (decide (0 < (Mod (rawV L (rawP L (rawP L t0.2.2.2.1))) 4))) then (((t0.2.2.2.2.2.drop 0).take (((Mod (rawV L (rawP L t0.2.2.2.1)) ((t0.2.2.2.2.2.map Sig.v).length : Int)) - 0).toNat)) ++ ((t0.2.2.2.2.2.drop ((W ((Mod (rawV L (rawP L t0.2.2.2.1)) ((t0.2.2.2.2.2.map Sig.v).length : Int)) + 1)).toNat)).take (((t0.2.2.2.2.2.length : Int) - (W ((Mod (rawV L (rawP L t0.2.2.2.1)) ((t0.2.2.2.2.2.map Sig.v).length : Int)) + 1))).toNat))) else (t0.2.2.2.2.2)) : (List Sig))))))))))))))))))
 (Nf (exch_n2 L p n restarts t0 x2 (t0.2.2.2.2.2)) [0, 1, 2, 3, 4, 5, 566] (((t0.2.2.2.2.2) : (List Sig)) = ((bif (decide (0 < (Mod (rawV L (rawP L (rawP L t0.2.2.2.1))) 4))) then (((t0.2.2.2.2.2.drop 0).take (((Mod (rawV L (rawP L t0.2.2.2.1)) ((t0.2.2.2.2.2.map Sig.v).length : Int)) - 0).toNat)) ++ ((t0.2.2.2.2.2.drop ((W ((Mod (rawV L (rawP L t0.2.2.2.1)) ((t0.2.2.2.2.2.map Sig.v).length : Int)) + 1)).toNat)).take (((t0.2.2.2.2.2.length : Int) - (W ((Mod (rawV L (rawP L t0.2.2.2.1)) ((t0.2.2.2.2.2.map Sig.v).length : Int)) + 1))).toNat))) else (t0.2.2.2.2.2)) : (List Sig)))))) ∧ ∀ t2 : (List Sig), t2 = ((bif (decide (0 < (Mod (rawV L (rawP L (rawP L t0.2.2.2.1))) 4))) then (((t0.2.2.2.2.2.drop 0).take (((Mod (rawV L (rawP L t0.2.2.2.1)) ((t0.2.2.2.2.2.map Sig.v).length : Int)) - 0).toNat)) ++ ((t0.2.2.2.2.2.drop ((W ((Mod (rawV L (rawP L t0.2.2.2.1)) ((t0.2.2.2.2.2.map Sig.v).length : Int)) + 1)).toNat)).take (((t0.2.2.2.2.2.length : Int) - (W ((Mod (rawV L (rawP L t0.2.2.2.1)) ((t0.2.2.2.2.2.map Sig.v).length : Int)) + 1))).toNat))) else (t0.2.2.2.2.2)) : (List Sig)) →
 br (x2.kind == 3)
 (Cl (ack_c t0.2.2.1 x2)
 (Nf (exch_n1 L p n restarts t0 ((ack t0.2.2.1 x2).2, t2, (ack t0.2.2.1 x2).1, rawP L (rawP L (rawP L t0.2.2.2.1)), t0.2.2.2.2.1)) [0, 1, 2, 3, 4, 5] (I1 t0 (((ack t0.2.2.1 x2).2, t2, (ack t0.2.2.1 x2).1, rawP L (rawP L (rawP L t0.2.2.2.1)), t0.2.2.2.2.1) : Int × (List Sig) × Spk × Nat × Lsn))))
 (Cl (hear_c t0.2.2.2.2.1 x2)
 (Rf (α := List AV) (t2.map Sig.v) (Rf (α := List AV) [.agg [.int (((hear t0.2.2.2.2.1 x2).1.2).kind), .int (((hear t0.2.2.2.2.1 x2).1.2).src), .int (((hear t0.2.2.2.2.1 x2).1.2).dst), .int (((hear t0.2.2.2.2.1 x2).1.2).epoch), .int (((hear t0.2.2.2.2.1 x2).1.2).ver), .int (((hear t0.2.2.2.2.1 x2).1.2).prev), .int (((hear t0.2.2.2.2.1 x2).1.2).pep), .int (((hear t0.2.2.2.2.1 x2).1.2).grp), .int (((hear t0.2.2.2.2.1 x2).1.2).mode), .sl 1 ((((hear t0.2.2.2.2.1 x2).1.2).srcs).map AV.int) false]]
 (ck (decide (t2.length + 1 ≤ 1000000))
 (Nf (exch_n1 L p n restarts t0 ((hear t0.2.2.2.2.1 x2).2, t2 ++ [(hear t0.2.2.2.2.1 x2).1.2], t0.2.2.1, rawP L (rawP L (rawP L t0.2.2.2.1)), (hear t0.2.2.2.2.1 x2).1.1)) [0, 1, 2, 3, 4, 359] (I1 t0 (((hear t0.2.2.2.2.1 x2).2, t2 ++ [(hear t0.2.2.2.2.1 x2).1.2], t0.2.2.1, rawP L (rawP L (rawP L t0.2.2.2.1)), (hear t0.2.2.2.2.1 x2).1.1) : Int × (List Sig) × Spk × Nat × Lsn))))))))))))
 (Nf (exch_n1 L p n restarts t0 (t0.1, t0.2.2.2.2.2, t0.2.2.1, rawP L t0.2.2.2.1, t0.2.2.2.2.1)) [0, 1, 2, 3, 4, 5] (I1 t0 ((t0.1, t0.2.2.2.2.2, t0.2.2.1, rawP L t0.2.2.2.1, t0.2.2.2.2.1) : Int × (List Sig) × Spk × Nat × Lsn)))))
 (br (decide (0 < ((t0.2.2.2.2.2.map Sig.v).length : Int)))
 (Ch (N_h L (rawP L t0.2.2.2.1) ((t0.2.2.2.2.2.map Sig.v).length : Int)) [0] 470
 (ck (cond (decide (0 ≤ (Mod (rawV L (rawP L t0.2.2.2.1)) ((t0.2.2.2.2.2.map Sig.v).length : Int)))) (decide ((Mod (rawV L (rawP L t0.2.2.2.1)) ((t0.2.2.2.2.2.map Sig.v).length : Int)) < ((t0.2.2.2.2.2.map Sig.v).length : Int))) false)
 (Rf (t0.2.2.2.2.2.map Sig.v) (ck (decide ((Mod (rawV L (rawP L t0.2.2.2.1)) ((t0.2.2.2.2.2.map Sig.v).length : Int)).toNat < t0.2.2.2.2.2.length))
 (∀ x3, t0.2.2.2.2.2[(Mod (rawV L (rawP L t0.2.2.2.1)) ((t0.2.2.2.2.2.map Sig.v).length : Int)).toNat]? = some x3 →
 (Ch (N_h L (rawP L (rawP L t0.2.2.2.1)) 4) [0] 614
 (br (decide (0 < (Mod (rawV L (rawP L (rawP L t0.2.2.2.1))) 4)))
 (Rf (t0.2.2.2.2.2.map Sig.v) (ck (decide (0 < t0.2.2.2.2.2.length))
 (ck (bndB t0.2.2.2.2.2.length 0 (Mod (rawV L (rawP L t0.2.2.2.1)) ((t0.2.2.2.2.2.map Sig.v).length : Int)) (t0.2.2.2.2.2.length : Int))
 (ck (decide (0 + ((Mod (rawV L (rawP L t0.2.2.2.1)) ((t0.2.2.2.2.2.map Sig.v).length : Int)) - 0).toNat ≤ (t0.2.2.2.2.2.map Sig.v).length))
 (Rf (α := List AV) [] (((((t0.2.2.2.2.2.map Sig.v).drop 0).take (((Mod (rawV L (rawP L t0.2.2.2.1)) ((t0.2.2.2.2.2.map Sig.v).length : Int)) - 0).toNat)) = ((t0.2.2.2.2.2.drop 0).take (((Mod (rawV L (rawP L t0.2.2.2.1)) ((t0.2.2.2.2.2.map Sig.v).length : Int)) - 0).toNat)).map Sig.v) ∧
 (ck (decide (0 + ((t0.2.2.2.2.2.drop 0).take (((Mod (rawV L (rawP L t0.2.2.2.1)) ((t0.2.2.2.2.2.map Sig.v).length : Int)) - 0).toNat)).length ≤ 1000000))
 (Rf (t0.2.2.2.2.2.map Sig.v) (ck (decide (0 < t0.2.2.2.2.2.length))
 (ck (bndB t0.2.2.2.2.2.length (W ((Mod (rawV L (rawP L t0.2.2.2.1)) ((t0.2.2.2.2.2.map Sig.v).length : Int)) + 1)) (t0.2.2.2.2.2.length : Int) (t0.2.2.2.2.2.length : Int))
 (ck (decide ((W ((Mod (rawV L (rawP L t0.2.2.2.1)) ((t0.2.2.2.2.2.map Sig.v).length : Int)) + 1)).toNat + ((t0.2.2.2.2.2.length : Int) - (W ((Mod (rawV L (rawP L t0.2.2.2.1)) ((t0.2.2.2.2.2.map Sig.v).length : Int)) + 1))).toNat ≤ (t0.2.2.2.2.2.map Sig.v).length))
 (Rf (α := List AV) (((t0.2.2.2.2.2.drop 0).take (((Mod (rawV L (rawP L t0.2.2.2.1)) ((t0.2.2.2.2.2.map Sig.v).length : Int)) - 0).toNat)).map Sig.v) (((((t0.2.2.2.2.2.map Sig.v).drop ((W ((Mod (rawV L (rawP L t0.2.2.2.1)) ((t0.2.2.2.2.2.map Sig.v).length : Int)) + 1)).toNat)).take (((t0.2.2.2.2.2.length : Int) - (W ((Mod (rawV L (rawP L t0.2.2.2.1)) ((t0.2.2.2.2.2.map Sig.v).length : Int)) + 1))).toNat)) = ((t0.2.2.2.2.2.drop ((W ((Mod (rawV L (rawP L t0.2.2.2.1)) ((t0.2.2.2.2.2.map Sig.v).length : Int)) + 1)).toNat)).take (((t0.2.2.2.2.2.length : Int) - (W ((Mod (rawV L (rawP L t0.2.2.2.1)) ((t0.2.2.2.2.2.map Sig.v).length : Int)) + 1))).toNat)).map Sig.v) ∧
 (ck (decide (((t0.2.2.2.2.2.drop 0).take (((Mod (rawV L (rawP L t0.2.2.2.1)) ((t0.2.2.2.2.2.map Sig.v).length : Int)) - 0).toNat)).length + ((t0.2.2.2.2.2.drop ((W ((Mod (rawV L (rawP L t0.2.2.2.1)) ((t0.2.2.2.2.2.map Sig.v).length : Int)) + 1)).toNat)).take (((t0.2.2.2.2.2.length : Int) - (W ((Mod (rawV L (rawP L t0.2.2.2.1)) ((t0.2.2.2.2.2.map Sig.v).length : Int)) + 1))).toNat)).length ≤ 1000000))
 (Nf (exch_n3 L p n restarts t0 x3 (((t0.2.2.2.2.2.drop 0).take (((Mod (rawV L (rawP L t0.2.2.2.1)) ((t0.2.2.2.2.2.map Sig.v).length : Int)) - 0).toNat)) ++ ((t0.2.2.2.2.2.drop ((W ((Mod (rawV L (rawP L t0.2.2.2.1)) ((t0.2.2.2.2.2.map Sig.v).length : Int)) + 1)).toNat)).take (((t0.2.2.2.2.2.length : Int) - (W ((Mod (rawV L (rawP L t0.2.2.2.1)) ((t0.2.2.2.2.2.map Sig.v).length : Int)) + 1))).toNat)))) [0, 1, 2, 3, 4, 790, 566] (((((t0.2.2.2.2.2.drop 0).take (((Mod (rawV L (rawP L t0.2.2.2.1)) ((t0.2.2.2.2.2.map Sig.v).length : Int)) - 0).toNat)) ++ ((t0.2.2.2.2.2.drop ((W ((Mod (rawV L (rawP L t0.2.2.2.1)) ((t0.2.2.2.2.2.map Sig.v).length : Int)) + 1)).toNat)).take (((t0.2.2.2.2.2.length : Int) - (W ((Mod (rawV L (rawP L t0.2.2.2.1)) ((t0.2.2.2.2.2.map Sig.v).length : Int)) + 1))).toNat))) : (List Sig)) = ((bif (decide (0 < (Mod (rawV L (rawP L (rawP L t0.2.2.2.1))) 4))) then (((t0.2.2.2.2.2.drop 0).take (((Mod (rawV L (rawP L t0.2.2.2.1)) ((t0.2.2.2.2.2.map Sig.v).length : Int)) - 0).toNat)) ++ ((t0.2.2.2.2.2.drop ((W ((Mod (rawV L (rawP L t0.2.2.2.1)) ((t0.2.2.2.2.2.map Sig.v).length : Int)) + 1)).toNat)).take (((t0.2.2.2.2.2.length : Int) - (W ((Mod (rawV L (rawP L t0.2.2.2.1)) ((t0.2.2.2.2.2.map Sig.v).length : Int)) + 1))).toNat))) else (t0.2.2.2.2.2)) : (List Sig))))))))))))))))))
 (Nf (exch_n3 L p n restarts t0 x3 (t0.2.2.2.2.2)) [0, 1, 2, 3, 4, 5, 566] (((t0.2.2.2.2.2) : (List Sig)) = ((bif (decide (0 < (Mod (rawV L (rawP L (rawP L t0.2.2.2.1))) 4))) then (((t0.2.2.2.2.2.drop 0).take (((Mod (rawV L (rawP L t0.2.2.2.1)) ((t0.2.2.2.2.2.map Sig.v).length : Int)) - 0).toNat)) ++ ((t0.2.2.2.2.2.drop ((W ((Mod (rawV L (rawP L t0.2.2.2.1)) ((t0.2.2.2.2.2.map Sig.v).length : Int)) + 1)).toNat)).take (((t0.2.2.2.2.2.length : Int) - (W ((Mod (rawV L (rawP L t0.2.2.2.1)) ((t0.2.2.2.2.2.map Sig.v).length : Int)) + 1))).toNat))) else (t0.2.2.2.2.2)) : (List Sig)))))) ∧ ∀ t3 : (List Sig), t3 = ((bif (decide (0 < (Mod (rawV L (rawP L (rawP L t0.2.2.2.1))) 4))) then (((t0.2.2.2.2.2.drop 0).take (((Mod (rawV L (rawP L t0.2.2.2.1)) ((t0.2.2.2.2.2.map Sig.v).length : Int)) - 0).toNat)) ++ ((t0.2.2.2.2.2.drop ((W ((Mod (rawV L (rawP L t0.2.2.2.1)) ((t0.2.2.2.2.2.map Sig.v).length : Int)) + 1)).toNat)).take (((t0.2.2.2.2.2.length : Int) - (W ((Mod (rawV L (rawP L t0.2.2.2.1)) ((t0.2.2.2.2.2.map Sig.v).length : Int)) + 1))).toNat))) else (t0.2.2.2.2.2)) : (List Sig)) →
 br (x3.kind == 3)
 (Cl (ack_c t0.2.2.1 x3)
 (Nf (exch_n1 L p n restarts t0 ((ack t0.2.2.1 x3).2, t3, (ack t0.2.2.1 x3).1, rawP L (rawP L (rawP L t0.2.2.2.1)), t0.2.2.2.2.1)) [0, 1, 2, 3, 4, 5] (I1 t0 (((ack t0.2.2.1 x3).2, t3, (ack t0.2.2.1 x3).1, rawP L (rawP L (rawP L t0.2.2.2.1)), t0.2.2.2.2.1) : Int × (List Sig) × Spk × Nat × Lsn))))
 (Cl (hear_c t0.2.2.2.2.1 x3)
 (Rf (α := List AV) (t3.map Sig.v) (Rf (α := List AV) [.agg [.int (((hear t0.2.2.2.2.1 x3).1.2).kind), .int (((hear t0.2.2.2.2.1 x3).1.2).src), .int (((hear t0.2.2.2.2.1 x3).1.2).dst), .int (((hear t0.2.2.2.2.1 x3).1.2).epoch), .int (((hear t0.2.2.2.2.1 x3).1.2).ver), .int (((hear t0.2.2.2.2.1 x3).1.2).prev), .int (((hear t0.2.2.2.2.1 x3).1.2).pep), .int (((hear t0.2.2.2.2.1 x3).1.2).grp), .int (((hear t0.2.2.2.2.1 x3).1.2).mode), .sl 1 ((((hear t0.2.2.2.2.1 x3).1.2).srcs).map AV.int) false]]
 (ck (decide (t3.length + 1 ≤ 1000000))
 (Nf (exch_n1 L p n restarts t0 ((hear t0.2.2.2.2.1 x3).2, t3 ++ [(hear t0.2.2.2.2.1 x3).1.2], t0.2.2.1, rawP L (rawP L (rawP L t0.2.2.2.1)), (hear t0.2.2.2.2.1 x3).1.1)) [0, 1, 2, 3, 4, 359] (I1 t0 (((hear t0.2.2.2.2.1 x3).2, t3 ++ [(hear t0.2.2.2.2.1 x3).1.2], t0.2.2.1, rawP L (rawP L (rawP L t0.2.2.2.1)), (hear t0.2.2.2.2.1 x3).1.1) : Int × (List Sig) × Spk × Nat × Lsn))))))))))))
 (Nf (exch_n1 L p n restarts t0 (t0.1, t0.2.2.2.2.2, t0.2.2.1, rawP L t0.2.2.2.1, t0.2.2.2.2.1)) [0, 1, 2, 3, 4, 5] (I1 t0 ((t0.1, t0.2.2.2.2.2, t0.2.2.1, rawP L t0.2.2.2.1, t0.2.2.2.2.1) : Int × (List Sig) × Spk × Nat × Lsn)))))))) ∧ ∀ t1 : Int × (List Sig) × Spk × Nat × Lsn, I1 t0 t1 →
 Cl (holds_c t1.2.2.1 t1.2.2.2.2)
 (br (!(decide (holdsP t1.2.2.1 t1.2.2.2.2)))
 (Nf ⟨[(6, .k, .ref 1 0), (7, .k, .ref 2 0), (8, .k, .bool false)], [.box (.agg [.sl 1 (L.map AV.int) false, .int ((t1.2.2.2.1 : Nat) : Int)]), .box (.agg [.int t1.2.2.1.router, .int t1.2.2.1.epoch, .int t1.2.2.1.last, .sl 4 (t1.2.2.1.items.map Itm.v) false, .sl 3 (t1.2.2.1.peers.map Per.v) false]), .box (.agg [.int t1.2.2.2.2.router, .int t1.2.2.2.2.epoch, .sl 4 (t1.2.2.2.2.heard.map Hrd.v) false])]⟩ [0, 1, 2] (Rf (exch_e ((⟨L, t1.2.2.2.1⟩ : Tap), t1.2.2.1, t1.2.2.2.2, false)) (Rf (exch_b ((⟨L, t1.2.2.2.1⟩ : Tap), t1.2.2.1, t1.2.2.2.2, false)) (((⟨L, t1.2.2.2.1⟩ : Tap), t1.2.2.1, t1.2.2.2.2, false) = r0))))
 (Nf (exch_n0 L p n restarts (t1.1, W (t0.2.1 + 1), t1.2.2.1, t1.2.2.2.1, t1.2.2.2.2, t1.2.1)) [0, 1, 2, 3, 4, 5] (I0 (t1.1, W (t0.2.1 + 1), t1.2.2.1, t1.2.2.2.1, t1.2.2.2.2, t1.2.1) ∧ m0 (t1.1, W (t0.2.1 + 1), t1.2.2.1, t1.2.2.2.1, t1.2.2.2.2, t1.2.1) < m0 t0))))
 (Nf ⟨[(6, .k, .ref 1 0), (7, .k, .ref 2 0), (8, .k, .bool (t0.1 == 0))], [.box (.agg [.sl 1 (L.map AV.int) false, .int ((t0.2.2.2.1 : Nat) : Int)]), .box (.agg [.int t0.2.2.1.router, .int t0.2.2.1.epoch, .int t0.2.2.1.last, .sl 4 (t0.2.2.1.items.map Itm.v) false, .sl 3 (t0.2.2.1.peers.map Per.v) false]), .box (.agg [.int t0.2.2.2.2.1.router, .int t0.2.2.2.2.1.epoch, .sl 4 (t0.2.2.2.2.1.heard.map Hrd.v) false])]⟩ [0, 1, 2] (Rf (exch_e ((⟨L, t0.2.2.2.1⟩ : Tap), t0.2.2.1, t0.2.2.2.2.1, t0.1 == 0)) (Rf (exch_b ((⟨L, t0.2.2.2.1⟩ : Tap), t0.2.2.1, t0.2.2.2.2.1, t0.1 == 0)) (((⟨L, t0.2.2.2.1⟩ : Tap), t0.2.2.1, t0.2.2.2.2.1, t0.1 == 0) = r0)))))
 (Nf ⟨[(6, .k, .ref 1 0), (7, .k, .ref 2 0), (8, .k, .bool (t0.1 == 0))], [.box (.agg [.sl 1 (L.map AV.int) false, .int ((t0.2.2.2.1 : Nat) : Int)]), .box (.agg [.int t0.2.2.1.router, .int t0.2.2.1.epoch, .int t0.2.2.1.last, .sl 4 (t0.2.2.1.items.map Itm.v) false, .sl 3 (t0.2.2.1.peers.map Per.v) false]), .box (.agg [.int t0.2.2.2.2.1.router, .int t0.2.2.2.2.1.epoch, .sl 4 (t0.2.2.2.2.1.heard.map Hrd.v) false])]⟩ [0, 1, 2] (Rf (exch_e ((⟨L, t0.2.2.2.1⟩ : Tap), t0.2.2.1, t0.2.2.2.2.1, t0.1 == 0)) (Rf (exch_b ((⟨L, t0.2.2.2.1⟩ : Tap), t0.2.2.1, t0.2.2.2.2.1, t0.1 == 0)) (((⟨L, t0.2.2.2.1⟩ : Tap), t0.2.2.1, t0.2.2.2.2.1, t0.1 == 0) = r0)))))
theorem exch_eq (L : (List Int)) (p : Nat) (n : Int) (restarts : Bool) (I0 : (Int × Int × Spk × Nat × Lsn × (List Sig)) → Prop) (m0 : (Int × Int × Spk × Nat × Lsn × (List Sig)) → Nat) (I1 : Int × Int × Spk × Nat × Lsn × (List Sig) → (Int × (List Sig) × Spk × Nat × Lsn) → Prop) (r0 : Tap × Spk × Lsn × Bool) : mxH Tryz.prog 35 [.ref 0 0, .int n, .bool restarts] [.box (.agg [.sl 1 (L.map AV.int) false, .int ((p : Nat) : Int)])] (.a [(.a [.k, .k, .k, (.s 4), (.s 3)]), (.a [.k, .k, (.s 4)]), .k]) exch_e exch_b ((.req 65 ([2].length ≤ 1000000) fun h1 =>
 (.callP (new_c 1 1 [2] h1)
 (.cmdL (.nilT 12 10) (.cmdL (.wkB 193 (.a [.k, .k, .s 4])) (.loop 0 (exch_n0 L p n restarts) (I0) (m0) (((new 1 1 [2]).2, 0, (new 1 1 [2]).1, p, (⟨2, 1, []⟩ : Lsn), []) : Int × Int × Spk × Nat × Lsn × (List Sig)) [0, 1, 17, 129, 193, 257] fun (t0 : Int × Int × Spk × Nat × Lsn × (List Sig)) =>
 (.br 70 (.br 118 (.pass (.join 1 (exch_n1 L p n restarts t0) (fun t1 => I1 t0 t1) (.callH [0] (N_h L t0.2.2.2.1 8)
 (.br 214 (.callH [0] (chgT_h L (rawP L t0.2.2.2.1))
 (.callP (change_c t0.2.2.1 ((chgT L (rawP L t0.2.2.2.1)).1))
 (.back 1 (((change t0.2.2.1 ((chgT L (rawP L t0.2.2.2.1)).1)).2, t0.2.2.2.2.2, (change t0.2.2.1 ((chgT L (rawP L t0.2.2.2.1)).1)).1, (chgT L (rawP L t0.2.2.2.1)).2, t0.2.2.2.2.1) : Int × (List Sig) × Spk × Nat × Lsn) [0, 1, 2, 3, 4, 5])))
 (.br 262 (.callP (send_c t0.2.2.1 2)
 (.app 438 Sig.v t0.2.2.2.2.2 ((send t0.2.2.1 2).1)
 (.back 1 (((send t0.2.2.1 2).2, t0.2.2.2.2.2 ++ ((send t0.2.2.1 2).1), t0.2.2.1, rawP L t0.2.2.2.1, t0.2.2.2.2.1) : Int × (List Sig) × Spk × Nat × Lsn) [0, 1, 2, 3, 4, 438])))
 (.br 310 (.br 358 (.callH [0] (N_h L (rawP L t0.2.2.2.1) 2)
 (.br 406 (.callH [0] (wantsT_h L (rawP L (rawP L t0.2.2.2.1)))
 (.callP (restart_c t0.2.2.1 ((wantsT L (rawP L (rawP L t0.2.2.2.1))).1))
 (.back 1 (((restart t0.2.2.1 ((wantsT L (rawP L (rawP L t0.2.2.2.1))).1)).2, t0.2.2.2.2.2, (restart t0.2.2.1 ((wantsT L (rawP L (rawP L t0.2.2.2.1))).1)).1, (wantsT L (rawP L (rawP L t0.2.2.2.1))).2, t0.2.2.2.2.1) : Int × (List Sig) × Spk × Nat × Lsn) [0, 1, 2, 3, 4, 5])))
 (.cmdL (.wkB 4 (.a [.k, .k, .s 4])) (.back 1 ((t0.1, t0.2.2.2.2.2, t0.2.2.1, rawP L (rawP L t0.2.2.2.1), (⟨2, W (t0.2.2.2.2.1.epoch + 1), []⟩ : Lsn)) : Int × (List Sig) × Spk × Nat × Lsn) [0, 1, 2, 3, 4, 5]))))
 (.br 422 (.callH [0] (N_h L (rawP L t0.2.2.2.1) ((t0.2.2.2.2.2.map Sig.v).length : Int))
 (.el 550 Sig.v t0.2.2.2.2.2 fun x2 =>
 (.join 2 (exch_n2 L p n restarts t0 x2) (fun t2 => t2 = ((bif (decide (0 < (Mod (rawV L (rawP L (rawP L t0.2.2.2.1))) 4))) then (((t0.2.2.2.2.2.drop 0).take (((Mod (rawV L (rawP L t0.2.2.2.1)) ((t0.2.2.2.2.2.map Sig.v).length : Int)) - 0).toNat)) ++ ((t0.2.2.2.2.2.drop ((W ((Mod (rawV L (rawP L t0.2.2.2.1)) ((t0.2.2.2.2.2.map Sig.v).length : Int)) + 1)).toNat)).take (((t0.2.2.2.2.2.length : Int) - (W ((Mod (rawV L (rawP L t0.2.2.2.1)) ((t0.2.2.2.2.2.map Sig.v).length : Int)) + 1))).toNat))) else (t0.2.2.2.2.2)) : (List Sig))) (.callH [0] (N_h L (rawP L (rawP L t0.2.2.2.1)) 4)
 (.br 646 (.sub 694 Sig.v t0.2.2.2.2.2 false
 (.app 710 Sig.v [] ((t0.2.2.2.2.2.drop 0).take (((Mod (rawV L (rawP L t0.2.2.2.1)) ((t0.2.2.2.2.2.map Sig.v).length : Int)) - 0).toNat))
 (.sub 774 Sig.v t0.2.2.2.2.2 false
 (.app 790 Sig.v ((t0.2.2.2.2.2.drop 0).take (((Mod (rawV L (rawP L t0.2.2.2.1)) ((t0.2.2.2.2.2.map Sig.v).length : Int)) - 0).toNat)) ((t0.2.2.2.2.2.drop ((W ((Mod (rawV L (rawP L t0.2.2.2.1)) ((t0.2.2.2.2.2.map Sig.v).length : Int)) + 1)).toNat)).take (((t0.2.2.2.2.2.length : Int) - (W ((Mod (rawV L (rawP L t0.2.2.2.1)) ((t0.2.2.2.2.2.map Sig.v).length : Int)) + 1))).toNat))
 (.back 2 ((((t0.2.2.2.2.2.drop 0).take (((Mod (rawV L (rawP L t0.2.2.2.1)) ((t0.2.2.2.2.2.map Sig.v).length : Int)) - 0).toNat)) ++ ((t0.2.2.2.2.2.drop ((W ((Mod (rawV L (rawP L t0.2.2.2.1)) ((t0.2.2.2.2.2.map Sig.v).length : Int)) + 1)).toNat)).take (((t0.2.2.2.2.2.length : Int) - (W ((Mod (rawV L (rawP L t0.2.2.2.1)) ((t0.2.2.2.2.2.map Sig.v).length : Int)) + 1))).toNat))) : (List Sig)) [0, 1, 2, 3, 4, 790, 566])))))
 (.back 2 ((t0.2.2.2.2.2) : (List Sig)) [0, 1, 2, 3, 4, 5, 566]))) fun (t2 : (List Sig)) =>
 (.br 55 (.callP (ack_c t0.2.2.1 x2)
 (.back 1 (((ack t0.2.2.1 x2).2, t2, (ack t0.2.2.1 x2).1, rawP L (rawP L (rawP L t0.2.2.2.1)), t0.2.2.2.2.1) : Int × (List Sig) × Spk × Nat × Lsn) [0, 1, 2, 3, 4, 5]))
 (.callP (hear_c t0.2.2.2.2.1 x2)
 (.app 359 Sig.v t2 [(hear t0.2.2.2.2.1 x2).1.2]
 (.back 1 (((hear t0.2.2.2.2.1 x2).2, t2 ++ [(hear t0.2.2.2.2.1 x2).1.2], t0.2.2.1, rawP L (rawP L (rawP L t0.2.2.2.1)), (hear t0.2.2.2.2.1 x2).1.1) : Int × (List Sig) × Spk × Nat × Lsn) [0, 1, 2, 3, 4, 359])))))))
 (.back 1 ((t0.1, t0.2.2.2.2.2, t0.2.2.1, rawP L t0.2.2.2.1, t0.2.2.2.2.1) : Int × (List Sig) × Spk × Nat × Lsn) [0, 1, 2, 3, 4, 5])))
 (.br 422 (.callH [0] (N_h L (rawP L t0.2.2.2.1) ((t0.2.2.2.2.2.map Sig.v).length : Int))
 (.el 550 Sig.v t0.2.2.2.2.2 fun x3 =>
 (.join 3 (exch_n3 L p n restarts t0 x3) (fun t3 => t3 = ((bif (decide (0 < (Mod (rawV L (rawP L (rawP L t0.2.2.2.1))) 4))) then (((t0.2.2.2.2.2.drop 0).take (((Mod (rawV L (rawP L t0.2.2.2.1)) ((t0.2.2.2.2.2.map Sig.v).length : Int)) - 0).toNat)) ++ ((t0.2.2.2.2.2.drop ((W ((Mod (rawV L (rawP L t0.2.2.2.1)) ((t0.2.2.2.2.2.map Sig.v).length : Int)) + 1)).toNat)).take (((t0.2.2.2.2.2.length : Int) - (W ((Mod (rawV L (rawP L t0.2.2.2.1)) ((t0.2.2.2.2.2.map Sig.v).length : Int)) + 1))).toNat))) else (t0.2.2.2.2.2)) : (List Sig))) (.callH [0] (N_h L (rawP L (rawP L t0.2.2.2.1)) 4)
 (.br 646 (.sub 694 Sig.v t0.2.2.2.2.2 false
 (.app 710 Sig.v [] ((t0.2.2.2.2.2.drop 0).take (((Mod (rawV L (rawP L t0.2.2.2.1)) ((t0.2.2.2.2.2.map Sig.v).length : Int)) - 0).toNat))
 (.sub 774 Sig.v t0.2.2.2.2.2 false
 (.app 790 Sig.v ((t0.2.2.2.2.2.drop 0).take (((Mod (rawV L (rawP L t0.2.2.2.1)) ((t0.2.2.2.2.2.map Sig.v).length : Int)) - 0).toNat)) ((t0.2.2.2.2.2.drop ((W ((Mod (rawV L (rawP L t0.2.2.2.1)) ((t0.2.2.2.2.2.map Sig.v).length : Int)) + 1)).toNat)).take (((t0.2.2.2.2.2.length : Int) - (W ((Mod (rawV L (rawP L t0.2.2.2.1)) ((t0.2.2.2.2.2.map Sig.v).length : Int)) + 1))).toNat))
 (.back 3 ((((t0.2.2.2.2.2.drop 0).take (((Mod (rawV L (rawP L t0.2.2.2.1)) ((t0.2.2.2.2.2.map Sig.v).length : Int)) - 0).toNat)) ++ ((t0.2.2.2.2.2.drop ((W ((Mod (rawV L (rawP L t0.2.2.2.1)) ((t0.2.2.2.2.2.map Sig.v).length : Int)) + 1)).toNat)).take (((t0.2.2.2.2.2.length : Int) - (W ((Mod (rawV L (rawP L t0.2.2.2.1)) ((t0.2.2.2.2.2.map Sig.v).length : Int)) + 1))).toNat))) : (List Sig)) [0, 1, 2, 3, 4, 790, 566])))))
 (.back 3 ((t0.2.2.2.2.2) : (List Sig)) [0, 1, 2, 3, 4, 5, 566]))) fun (t3 : (List Sig)) =>
 (.br 55 (.callP (ack_c t0.2.2.1 x3)
 (.back 1 (((ack t0.2.2.1 x3).2, t3, (ack t0.2.2.1 x3).1, rawP L (rawP L (rawP L t0.2.2.2.1)), t0.2.2.2.2.1) : Int × (List Sig) × Spk × Nat × Lsn) [0, 1, 2, 3, 4, 5]))
 (.callP (hear_c t0.2.2.2.2.1 x3)
 (.app 359 Sig.v t3 [(hear t0.2.2.2.2.1 x3).1.2]
 (.back 1 (((hear t0.2.2.2.2.1 x3).2, t3 ++ [(hear t0.2.2.2.2.1 x3).1.2], t0.2.2.1, rawP L (rawP L (rawP L t0.2.2.2.1)), (hear t0.2.2.2.2.1 x3).1.1) : Int × (List Sig) × Spk × Nat × Lsn) [0, 1, 2, 3, 4, 359])))))))
 (.back 1 ((t0.1, t0.2.2.2.2.2, t0.2.2.1, rawP L t0.2.2.2.1, t0.2.2.2.2.1) : Int × (List Sig) × Spk × Nat × Lsn) [0, 1, 2, 3, 4, 5])))))) fun (t1 : Int × (List Sig) × Spk × Nat × Lsn) =>
 (.callP (holds_c t1.2.2.1 t1.2.2.2.2)
 (.br 70 (.retH ((⟨L, t1.2.2.2.1⟩ : Tap), t1.2.2.1, t1.2.2.2.2, false) ⟨[(6, .k, .ref 1 0), (7, .k, .ref 2 0), (8, .k, .bool false)], [.box (.agg [.sl 1 (L.map AV.int) false, .int ((t1.2.2.2.1 : Nat) : Int)]), .box (.agg [.int t1.2.2.1.router, .int t1.2.2.1.epoch, .int t1.2.2.1.last, .sl 4 (t1.2.2.1.items.map Itm.v) false, .sl 3 (t1.2.2.1.peers.map Per.v) false]), .box (.agg [.int t1.2.2.2.2.router, .int t1.2.2.2.2.epoch, .sl 4 (t1.2.2.2.2.heard.map Hrd.v) false])]⟩ [0, 1, 2])
 (.back 0 ((t1.1, W (t0.2.1 + 1), t1.2.2.1, t1.2.2.2.1, t1.2.2.2.2, t1.2.1) : Int × Int × Spk × Nat × Lsn × (List Sig)) [0, 1, 2, 3, 4, 5])))))
 (.retH ((⟨L, t0.2.2.2.1⟩ : Tap), t0.2.2.1, t0.2.2.2.2.1, t0.1 == 0) ⟨[(6, .k, .ref 1 0), (7, .k, .ref 2 0), (8, .k, .bool (t0.1 == 0))], [.box (.agg [.sl 1 (L.map AV.int) false, .int ((t0.2.2.2.1 : Nat) : Int)]), .box (.agg [.int t0.2.2.1.router, .int t0.2.2.1.epoch, .int t0.2.2.1.last, .sl 4 (t0.2.2.1.items.map Itm.v) false, .sl 3 (t0.2.2.1.peers.map Per.v) false]), .box (.agg [.int t0.2.2.2.2.1.router, .int t0.2.2.2.2.1.epoch, .sl 4 (t0.2.2.2.2.1.heard.map Hrd.v) false])]⟩ [0, 1, 2]))
 (.retH ((⟨L, t0.2.2.2.1⟩ : Tap), t0.2.2.1, t0.2.2.2.2.1, t0.1 == 0) ⟨[(6, .k, .ref 1 0), (7, .k, .ref 2 0), (8, .k, .bool (t0.1 == 0))], [.box (.agg [.sl 1 (L.map AV.int) false, .int ((t0.2.2.2.1 : Nat) : Int)]), .box (.agg [.int t0.2.2.1.router, .int t0.2.2.1.epoch, .int t0.2.2.1.last, .sl 4 (t0.2.2.1.items.map Itm.v) false, .sl 3 (t0.2.2.1.peers.map Per.v) false]), .box (.agg [.int t0.2.2.2.2.1.router, .int t0.2.2.2.2.1.epoch, .sl 4 (t0.2.2.2.2.1.heard.map Hrd.v) false])]⟩ [0, 1, 2]))))))) : An Tryz.prog exch_s (Tap × Spk × Lsn × Bool)) r0 = exch_vc L p n restarts I0 m0 I1 r0 := by kernel_rfl
theorem exch_ok (L : (List Int)) (p : Nat) (n : Int) (restarts : Bool) (I0 : (Int × Int × Spk × Nat × Lsn × (List Sig)) → Prop) (m0 : (Int × Int × Spk × Nat × Lsn × (List Sig)) → Nat) (I1 : Int × Int × Spk × Nat × Lsn × (List Sig) → (Int × (List Sig) × Spk × Nat × Lsn) → Prop) (r0 : Tap × Spk × Lsn × Bool) (h : exch_vc L p n restarts I0 m0 I1 r0) : HSpec Tryz.prog 35 [.ref 0 0, .int n, .bool restarts] [.box (.agg [.sl 1 (L.map AV.int) false, .int ((p : Nat) : Int)])] (exch_e r0) (exch_b r0) := by
  have e := exch_eq L p n restarts I0 m0 I1 r0
  rw [← e] at h
  exact mxH_ok (enc := exch_e) (hB := exch_b) h
def ES.t0 (s : ES) (k : Nat) : Int × Int × Spk × Nat × Lsn × List Sig := (s.e, (k : Int), s.a, s.p, s.l, s.air)
def esOf (t : Int × Int × Spk × Nat × Lsn × List Sig) : ES := ⟨t.1, t.2.2.1, t.2.2.2.2.1, t.2.2.2.2.2, t.2.2.2.1⟩
def ES.res (L : List Int) (s : ES) : Tap × Spk × Lsn × Bool := (⟨L, s.p⟩, s.a, s.l, s.e == 0)
theorem cut_eq {L : List Int} {q : Nat} {air : List Sig} {M : Int} (h0 : 0 ≤ M) (h : M < air.length) (hl : air.length ≤ 1000000) :
    (bif decide (0 < Mod (rawV L q) 4) then air.take M.toNat ++ (air.drop (W (M + 1)).toNat).take ((air.length : Int) - W (M + 1)).toNat else air) = cutAir L q air M.toNat := by
  unfold cutAir
  rw [W_eq (by omega)]
  by_cases e : 0 < Mod (rawV L q) 4
  · rw [if_pos e, decide_eq_true e, cond_true, List.take_of_length_le (l := air.drop _) (by rw [List.length_drop]; omega), show (M + 1).toNat = M.toNat + 1 by omega]
  · rw [if_neg e, decide_eq_false e, cond_false]
theorem exch_q (L : List Int) (p : Nat) (n : Nat) (r : Bool) (hn : n ≤ 100) (ok : exch_a L p n r) : ∃ I0 m0 I1, exch_vc L p n r I0 m0 I1 ((stps L r p n).res L) := by
  simp only [exch_a, okU, Blk.ok, plainV, List.length_map] at ok
  refine ⟨fun t => ∃ k : Nat, k ≤ n ∧ t = (stps L r p k).t0 k, fun t => n - t.2.1.toNat, fun t0 t1 => t1 = ((stp L r (esOf t0)).e, (stp L r (esOf t0)).air, (stp L r (esOf t0)).a, (stp L r (esOf t0)).p, (stp L r (esOf t0)).l), ?_⟩
  simp only [exch_vc, vcU, rfU, List.length_map]
  have hnew : new 1 1 [2] = (⟨1, 1, 0, [], [⟨2, 0, 0⟩]⟩, 0) := by decide
  rw [hnew]
  refine ⟨by simp, ⟨0, by omega, rfl⟩, ?_⟩
  rintro _ ⟨k, hk, rfl⟩
  obtain ⟨hi, he⟩ := stps_inv (L := L) (r := r) (p := p) k (by omega)
  have hs : stps L r p (k + 1) = stp L r (stps L r p k) := rfl
  generalize hS : stps L r p k = s at *
  have hes : esOf (s.t0 k) = s := rfl
  simp only [hes]
  delta ES.t0
  simp only
  refine ⟨fun h1 => ⟨fun _ => ⟨?_, ?_⟩, fun h2 => ?_⟩, fun h1 => ?_⟩
  · by_cases a : Mod (rawV L s.p) 8 < 2
    · simp [a, stp]
    by_cases b : Mod (rawV L s.p) 8 < 4
    · have hl := (inv_send hi (by omega)).2.len
      rw [List.length_append] at hl
      simp [a, b, stp]
      show s.air.length + (send s.a 2).1.length ≤ 1000000
      omega
    by_cases c : Mod (rawV L s.p) 8 = 7
    · cases r
      · by_cases d : s.air = []
        · simp [a, b, c, d, stp]
        · have d' : 0 < s.air.length := List.length_pos_iff.mpr d
          have hm := Mod_range (x := rawV L (rawP L s.p)) (n := s.air.length) (by omega)
          obtain ⟨x, hx⟩ : ∃ x, s.air[(Mod (rawV L (rawP L s.p)) s.air.length).toNat]? = some x := ⟨_, List.getElem?_eq_getElem (by omega)⟩
          have hl := hi.len
          have hcut := cut_eq (L := L) (q := rawP L (rawP L s.p)) hm.1 hm.2 (by omega)
          obtain ⟨j, hj, hjl⟩ : ∃ j : Nat, Mod (rawV L (rawP L s.p)) s.air.length = j ∧ j < s.air.length := ⟨(Mod (rawV L (rawP L s.p)) s.air.length).toNat, by omega, by omega⟩
          rw [hj, Int.toNat_natCast] at hx hcut
          rw [W_succ hjl (show s.air.length ≤ 9223372036854775807 by omega)] at hcut
          simp [a, b, c, d, d', hj, hx, W_succ hjl (show s.air.length ≤ 9223372036854775807 by omega), stp]
          refine ⟨hjl, ⟨fun e => ⟨by simp [bndB]; omega, by omega, by omega, by simp [bndB]; omega, by omega, by omega, by simp [e]⟩, fun e => by rw [decide_eq_false (by omega)]; rfl⟩, ?_⟩
          rw [Int.toNat_natCast, show ((j + 1 : Nat) : Int) = (j : Int) + 1 from rfl] at hcut
          simp only [stpAir]
          refine ⟨fun e => ?_, fun e => ⟨?_, ?_⟩⟩
          · rw [if_pos e, hcut]; exact ⟨rfl, rfl, rfl, rfl, rfl⟩
          · cases decide (0 < Mod (rawV L (rawP L (rawP L s.p))) 4)
            · simp; omega
            · simp; omega
          · rw [if_neg e, hcut]; exact ⟨rfl, rfl, rfl, rfl, rfl⟩
      · by_cases d : Mod (rawV L (rawP L s.p)) 2 = 0
        · simp [a, b, c, d, stp]
        · simp [a, b, c, d, stp]
    · by_cases d : s.air = []
      · simp [a, b, c, d, stp]
      · have d' : 0 < s.air.length := List.length_pos_iff.mpr d
        have hm := Mod_range (x := rawV L (rawP L s.p)) (n := s.air.length) (by omega)
        obtain ⟨x, hx⟩ : ∃ x, s.air[(Mod (rawV L (rawP L s.p)) s.air.length).toNat]? = some x := ⟨_, List.getElem?_eq_getElem (by omega)⟩
        have hl := hi.len
        have hcut := cut_eq (L := L) (q := rawP L (rawP L s.p)) hm.1 hm.2 (by omega)
        obtain ⟨j, hj, hjl⟩ : ∃ j : Nat, Mod (rawV L (rawP L s.p)) s.air.length = j ∧ j < s.air.length := ⟨(Mod (rawV L (rawP L s.p)) s.air.length).toNat, by omega, by omega⟩
        rw [hj, Int.toNat_natCast] at hx hcut
        rw [W_succ hjl (show s.air.length ≤ 9223372036854775807 by omega)] at hcut
        simp [a, b, c, d, d', hj, hx, W_succ hjl (show s.air.length ≤ 9223372036854775807 by omega), stp]
        refine ⟨hjl, ⟨fun e => ⟨by simp [bndB]; omega, by omega, by omega, by simp [bndB]; omega, by omega, by omega, by simp [e]⟩, fun e => by rw [decide_eq_false (by omega)]; rfl⟩, ?_⟩
        rw [Int.toNat_natCast, show ((j + 1 : Nat) : Int) = (j : Int) + 1 from rfl] at hcut
        simp only [stpAir]
        refine ⟨fun e => ?_, fun e => ⟨?_, ?_⟩⟩
        · rw [if_pos e, hcut]; exact ⟨rfl, rfl, rfl, rfl, rfl⟩
        · cases decide (0 < Mod (rawV L (rawP L (rawP L s.p))) 4)
          · simp; omega
          · simp; omega
        · rw [if_neg e, hcut]; exact ⟨rfl, rfl, rfl, rfl, rfl⟩
  · rintro _ rfl
    have hh := (stp_inv (L := L) (r := r) hi he (by omega)).1.holds
    simp only
    refine ⟨fun e => ?_, fun e => ⟨⟨k + 1, by omega, ?_⟩, ?_⟩⟩
    · exact absurd e (by simpa using hh)
    · rw [hs, W_succ (n := n) (by omega) (by omega)]
    · rw [W_succ (n := n) (by omega) (by omega)]; omega
  · simp [he] at h2
  · have : k = n := by omega
    subst this
    rw [hS]; rfl
theorem exch_p (L : List Int) (p : Nat) (n : Int) (r : Bool) (hn : 0 ≤ n ∧ n ≤ 100) (ok : exch_a L p n r) : ∃ I0 m0 I1, exch_vc L p n r I0 m0 I1 ((stps L r p n.toNat).res L) := by
  obtain ⟨k, rfl⟩ := Int.eq_ofNat_of_zero_le hn.1
  exact exch_q L p k r (by omega) ok
def exch_h (L : (List Int)) (p : Nat) (n : Int) (restarts : Bool) (hn : 0 ≤ n ∧ n ≤ 100) : HC Tryz.prog := ⟨35, [.k, .k, .k], [.ref 0 0, .int n, .bool restarts], [.box (.agg [.sl 1 (L.map AV.int) false, .int ((p : Nat) : Int)])], exch_e ((stps L restarts p n.toNat).res L), exch_b ((stps L restarts p n.toNat).res L), HSpec.of_okh fun ok ok2 => have ok : exch_a L p n restarts := ⟨ok, ok2 _ (by simp)⟩; (exch_p L p n restarts hn ok).elim fun I0 h => h.elim fun m0 h => h.elim fun I1 h => exch_ok L p n restarts I0 m0 I1 _ h, fnB_ok (by kernel_rfl), HcOk.of (by simp [hcB, belBL, AV.belB, allB, okBk, okBkO, exch_e, exch_b, pureBL_map (v := AV.int) (fun _ => rfl)])⟩
end Go.Proofs.YtglfecmdoekabaaGreatDoor
