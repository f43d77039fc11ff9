/- What a listener hears. -/
import Derived.Test.YtglfecmdoekabaaGreatDoorIH
namespace Go.Proofs.YtglfecmdoekabaaGreatDoor
open Go Go.Am
set_option linter.unusedVariables false
set_option linter.unusedSimpArgs false
def hearF_a (l : Lsn) (x : Sig) : Prop := okL [.agg [.int l.router, .int l.epoch, .sl 4 (l.heard.map Hrd.v) false], .agg [.int x.kind, .int x.src, .int x.dst, .int x.epoch, .int x.ver, .int x.prev, .int x.pep, .int x.grp, .int x.mode, .sl 1 (x.srcs.map AV.int) false]]
def hearF_n0 (l : Lsn) (x : Sig) (t0 : Unit) : NF := ⟨[(2, .k, .ref 0 0), (3, .k, .ref 1 0), (4, .k, .ref 2 0), (5, .k, .ref 3 0), (8, .k, .int (posH l.heard x.src : Int)), (9, .k, .bool (decide (hitH l.heard x.src)))], [.box (.agg [.int l.router, .int l.epoch, .sl 4 (l.heard.map Hrd.v) false]), .box (.agg [.int x.kind, .int x.src, .int x.dst, .int x.epoch, .int x.ver, .int x.prev, .int x.pep, .int x.grp, .int x.mode, .sl 1 (x.srcs.map AV.int) false]), .box (.agg [.int 0, .int 0, .sl 0 [] true]), .box (.agg [.int 0, .int 0, .int 0, .int 0, .int 0, .int 0, .int 0, .int 0, .int 0, .sl 0 [] true])]⟩
def hearF_n1 (l : Lsn) (x : Sig) (t0 : Unit) (t1 : Int × (List Hrd)) : NF := ⟨[(2, .k, .ref 0 0), (3, .k, .ref 1 0), (4, .k, .ref 2 0), (5, .k, .ref 3 0), (8, .k, .int (posH l.heard x.src : Int)), (9, .k, .bool (decide (hitH l.heard x.src))), (10, .k, .ref 4 0), (60, .k, .sl 4 (l.heard.map Hrd.v) false), (61, .k, .int ((l.heard.map Hrd.v).length : Int)), (62, .k, .int t1.1)], [.box (.agg [.int l.router, .int l.epoch, .sl 4 (l.heard.map Hrd.v) false]), .box (.agg [.int x.kind, .int x.src, .int x.dst, .int x.epoch, .int x.ver, .int x.prev, .int x.pep, .int x.grp, .int x.mode, .sl 1 (x.srcs.map AV.int) false]), .box (.agg [.int 0, .int 0, .sl 0 [] true]), .box (.agg [.int 0, .int 0, .int 0, .int 0, .int 0, .int 0, .int 0, .int 0, .int 0, .sl 0 [] true]), .box (.agg [.int l.router, .int l.epoch, .vec 5]), .vec 4 (t1.2.map Hrd.v) (pureBL_map (fun _ => rfl) t1.2)]⟩
def hearF_n2 (l : Lsn) (x : Sig) (t0 : Unit) (t1 : Int × (List Hrd)) (t2 : (List Hrd)) : NF := ⟨[(2, .k, .ref 0 0), (3, .k, .ref 1 0), (4, .k, .ref 2 0), (5, .k, .ref 3 0), (8, .k, .int (posH l.heard x.src : Int)), (10, .k, .ref 4 0)], [.box (.agg [.int l.router, .int l.epoch, .sl 4 (l.heard.map Hrd.v) false]), .box (.agg [.int x.kind, .int x.src, .int x.dst, .int x.epoch, .int x.ver, .int x.prev, .int x.pep, .int x.grp, .int x.mode, .sl 1 (x.srcs.map AV.int) false]), .box (.agg [.int 0, .int 0, .sl 0 [] true]), .box (.agg [.int 0, .int 0, .int 0, .int 0, .int 0, .int 0, .int 0, .int 0, .int 0, .sl 0 [] true]), .box (.agg [.int l.router, .int l.epoch, .vec 5]), .vec 4 (t2.map Hrd.v) (pureBL_map (fun _ => rfl) t2)]⟩
def hearF_n3 (l : Lsn) (x : Sig) (t0 : Unit) (t1 : Int × (List Hrd)) (t2 : (List Hrd)) (t3 : (List Hrd)) : NF := ⟨[(2, .k, .ref 0 0), (3, .k, .ref 1 0), (4, .k, .ref 2 0), (5, .k, .ref 3 0), (10, .k, .ref 4 0), (13, .k, .eref 5 ((posH l.heard x.src : Int).toNat) 0)], [.box (.agg [.int l.router, .int l.epoch, .sl 4 (l.heard.map Hrd.v) false]), .box (.agg [.int x.kind, .int x.src, .int x.dst, .int x.epoch, .int x.ver, .int x.prev, .int x.pep, .int x.grp, .int x.mode, .sl 1 (x.srcs.map AV.int) false]), .box (.agg [.int 0, .int 0, .sl 0 [] true]), .box (.agg [.int 0, .int 0, .int 0, .int 0, .int 0, .int 0, .int 0, .int 0, .int 0, .sl 0 [] true]), .box (.agg [.int l.router, .int l.epoch, .vec 5]), .vec 4 (t3.map Hrd.v) (pureBL_map (fun _ => rfl) t3)]⟩
def hearF_n4 (l : Lsn) (x : Sig) (t0 : Unit) (t1 : Int × (List Hrd)) (t2 : (List Hrd)) (t3 : (List Hrd)) (t4 : (List Hrd)) : NF := ⟨[(2, .k, .ref 0 0), (3, .k, .ref 1 0), (4, .k, .ref 2 0), (5, .k, .ref 3 0), (10, .k, .ref 4 0), (13, .k, .eref 5 ((posH l.heard x.src : Int).toNat) 0)], [.box (.agg [.int l.router, .int l.epoch, .sl 4 (l.heard.map Hrd.v) false]), .box (.agg [.int x.kind, .int x.src, .int x.dst, .int x.epoch, .int x.ver, .int x.prev, .int x.pep, .int x.grp, .int x.mode, .sl 1 (x.srcs.map AV.int) false]), .box (.agg [.int 0, .int 0, .sl 0 [] true]), .box (.agg [.int 0, .int 0, .int 0, .int 0, .int 0, .int 0, .int 0, .int 0, .int 0, .sl 0 [] true]), .box (.agg [.int l.router, .int l.epoch, .vec 5]), .vec 4 (t4.map Hrd.v) (pureBL_map (fun _ => rfl) t4)]⟩
def hearF_s : Nat → Type
  | 0 => Unit
  | 1 => Int × (List Hrd)
  | 2 => (List Hrd)
  | 3 => (List Hrd)
  | 4 => (List Hrd)
  | _ => Unit
def hearF_e (r : Lsn × Sig × Int) : AV := .tup [Lsn.v r.1, Sig.v r.2.1, .int r.2.2]
def hearF_vc (l : Lsn) (x : Sig) (I1 : Unit → (Int × (List Hrd)) → Prop) (m1 : Unit → (Int × (List Hrd)) → Nat) (r0 : Lsn × Sig × Int) : Prop :=
 Cl (valL_c l)
 (Cl (sigV_c x)
 (Cl (orI_c [valL l, sigErr x])
 (br ((orI [valL l, sigErr x]) != 0)
 (Rf (hearF_e ((⟨0, 0, []⟩ : Lsn), (⟨0, 0, 0, 0, 0, 0, 0, 0, 0, []⟩ : Sig), orI [valL l, sigErr x])) (((⟨0, 0, []⟩ : Lsn), (⟨0, 0, 0, 0, 0, 0, 0, 0, 0, []⟩ : Sig), orI [valL l, sigErr x]) = r0))
 (br (x.kind == 3)
 (Rf (hearF_e ((⟨0, 0, []⟩ : Lsn), (⟨0, 0, 0, 0, 0, 0, 0, 0, 0, []⟩ : Sig), 1)) (((⟨0, 0, []⟩ : Lsn), (⟨0, 0, 0, 0, 0, 0, 0, 0, 0, []⟩ : Sig), 1) = r0))
 (br (x.dst != l.router)
 (Rf (hearF_e ((⟨0, 0, []⟩ : Lsn), (⟨0, 0, 0, 0, 0, 0, 0, 0, 0, []⟩ : Sig), 1)) (((⟨0, 0, []⟩ : Lsn), (⟨0, 0, 0, 0, 0, 0, 0, 0, 0, []⟩ : Sig), 1) = r0))
 (∃ h1 : l.heard.Pairwise fun x y => x.router < y.router,
 ∃ h2 : l.heard.length ≤ 1000000,
 Cl (heard_c l x.src h1 h2)
 ((br (!(decide (hitH l.heard x.src)))
 (br (((l.heard.map Hrd.v).length : Int) == 12)
 (Rf (hearF_e ((⟨0, 0, []⟩ : Lsn), (⟨0, 0, 0, 0, 0, 0, 0, 0, 0, []⟩ : Sig), 3)) (((⟨0, 0, []⟩ : Lsn), (⟨0, 0, 0, 0, 0, 0, 0, 0, 0, []⟩ : Sig), 3) = r0))
 (Nf (hearF_n0 l x (())) [0, 16, 32, 48] ((bif (!(decide (hitH l.heard x.src))) then (bif (((l.heard.map Hrd.v).length : Int) == 12) then false else true) else true) = true)))
 (Nf (hearF_n0 l x (())) [0, 16, 32, 48] ((bif (!(decide (hitH l.heard x.src))) then (bif (((l.heard.map Hrd.v).length : Int) == 12) then false else true) else true) = true))) ∧ ∀ t0 : Unit, (bif (!(decide (hitH l.heard x.src))) then (bif (((l.heard.map Hrd.v).length : Int) == 12) then false else true) else true) = true →
 Nf (hearF_n1 l x t0 (0, [])) [0, 1, 2, 3, 84, 180] (I1 t0 (0, [])) ∧ ∀ t1 : Int × (List Hrd), I1 t0 t1 →
 br (decide (t1.1 < ((l.heard.map Hrd.v).length : Int)))
 (Rf (l.heard.map Hrd.v) (ck (decide (0 ≤ t1.1)) (ck (decide (t1.1 < (l.heard.length : Int)))
 (∀ x3, l.heard[t1.1.toNat]? = some x3 →
 ∃ h4 : okItms x3.items,
 Ch (copied_h x3.items 0 h4) [] 118
 (Rf ((without 0 x3.items).map Itm.v) (Rf (α := List AV) (t1.2.map Hrd.v) (Rf (α := List AV) [.agg [.int x3.router, .int x3.epoch, .int x3.ver, .sl 4 ((without 0 x3.items).map Itm.v) false]]
 (ck (decide (t1.2.length + 1 ≤ 1000000))
 (Nf (hearF_n1 l x t0 (W (t1.1 + 1), t1.2 ++ [(⟨x3.router, x3.epoch, x3.ver, without 0 x3.items⟩ : Hrd)])) [0, 1, 2, 3, 4, 230] (I1 t0 (W (t1.1 + 1), t1.2 ++ [(⟨x3.router, x3.epoch, x3.ver, without 0 x3.items⟩ : Hrd)]) ∧ m1 t0 (W (t1.1 + 1), t1.2 ++ [(⟨x3.router, x3.epoch, x3.ver, without 0 x3.items⟩ : Hrd)]) < m1 t0 t1))))))))))
 ((br (!(decide (hitH l.heard x.src)))
 (∃ h5 : (posH l.heard x.src) ≤ t1.2.length,
 ∃ h6 : t1.2.length ≤ 1000000,
 Ch (insH_h t1.2 x.src (posH l.heard x.src) h5 h6) [5, 150] 166
 (Nf (hearF_n2 l x t0 t1 (insAt t1.2 (posH l.heard x.src) (⟨x.src, 0, 0, []⟩ : Hrd))) [0, 1, 2, 3, 4, 166] (((insAt t1.2 (posH l.heard x.src) (⟨x.src, 0, 0, []⟩ : Hrd)) : (List Hrd)) = ((bif (!(decide (hitH l.heard x.src))) then (insAt t1.2 (posH l.heard x.src) (⟨x.src, 0, 0, []⟩ : Hrd)) else (t1.2)) : (List Hrd)))))
 (Nf (hearF_n2 l x t0 t1 (t1.2)) [0, 1, 2, 3, 4, 5] (((t1.2) : (List Hrd)) = ((bif (!(decide (hitH l.heard x.src))) then (insAt t1.2 (posH l.heard x.src) (⟨x.src, 0, 0, []⟩ : Hrd)) else (t1.2)) : (List Hrd))))) ∧ ∀ t2 : (List Hrd), t2 = ((bif (!(decide (hitH l.heard x.src))) then (insAt t1.2 (posH l.heard x.src) (⟨x.src, 0, 0, []⟩ : Hrd)) else (t1.2)) : (List Hrd)) →
 ck (cond (decide (0 ≤ (posH l.heard x.src : Int))) (decide ((posH l.heard x.src : Int) < ((t2.map Hrd.v).length : Int))) false)
 ((Rf (t2.map Hrd.v) (ck (decide ((posH l.heard x.src : Int).toNat < t2.length))
 (∀ x7, t2[(posH l.heard x.src : Int).toNat]? = some x7 →
 br (decide (x7.epoch < x.epoch))
 (Rf (t2.map Hrd.v) (ck (decide ((posH l.heard x.src : Int).toNat < t2.length))
 (∀ y8, t2[(posH l.heard x.src : Int).toNat]? = some y8 →
 (Rf (α := List AV) ((t2.map Hrd.v).set ((posH l.heard x.src : Int).toNat) (.agg [.int x.src, .int x.epoch, .int 0, .sl 0 [] true])) (Rf (Hrd.v (⟨x.src, x.epoch, 0, []⟩ : Hrd))
 (Nf (hearF_n3 l x t0 t1 t2 (t2.set ((posH l.heard x.src : Int).toNat) (⟨x.src, x.epoch, 0, []⟩ : Hrd))) [0, 1, 2, 3, 4, 5] ((∃ x7' : Hrd, t2[(posH l.heard x.src : Int).toNat]? = some x7' ∧ (decide (x7'.epoch < x.epoch)) = true ∧ ∃ y8' : Hrd, t2[(posH l.heard x.src : Int).toNat]? = some y8' ∧ ((t2.set ((posH l.heard x.src : Int).toNat) (⟨x.src, x.epoch, 0, []⟩ : Hrd)) : (List Hrd)) = ((t2.set ((posH l.heard x.src : Int).toNat) (⟨x.src, x.epoch, 0, []⟩ : Hrd)) : (List Hrd))) ∨ (∃ x7' : Hrd, t2[(posH l.heard x.src : Int).toNat]? = some x7' ∧ (decide (x7'.epoch < x.epoch)) = false ∧ ((t2.set ((posH l.heard x.src : Int).toNat) (⟨x.src, x.epoch, 0, []⟩ : Hrd)) : (List Hrd)) = ((t2) : (List Hrd))))))))))
 (Nf (hearF_n3 l x t0 t1 t2 (t2)) [0, 1, 2, 3, 4, 5] ((∃ x7' : Hrd, t2[(posH l.heard x.src : Int).toNat]? = some x7' ∧ (decide (x7'.epoch < x.epoch)) = true ∧ ∃ y8' : Hrd, t2[(posH l.heard x.src : Int).toNat]? = some y8' ∧ ((t2) : (List Hrd)) = ((t2.set ((posH l.heard x.src : Int).toNat) (⟨x.src, x.epoch, 0, []⟩ : Hrd)) : (List Hrd))) ∨ (∃ x7' : Hrd, t2[(posH l.heard x.src : Int).toNat]? = some x7' ∧ (decide (x7'.epoch < x.epoch)) = false ∧ ((t2) : (List Hrd)) = ((t2) : (List Hrd)))))))) ∧ ∀ t3 : (List Hrd), (∃ x7' : Hrd, t2[(posH l.heard x.src : Int).toNat]? = some x7' ∧ (decide (x7'.epoch < x.epoch)) = true ∧ ∃ y8' : Hrd, t2[(posH l.heard x.src : Int).toNat]? = some y8' ∧ t3 = ((t2.set ((posH l.heard x.src : Int).toNat) (⟨x.src, x.epoch, 0, []⟩ : Hrd)) : (List Hrd))) ∨ (∃ x7' : Hrd, t2[(posH l.heard x.src : Int).toNat]? = some x7' ∧ (decide (x7'.epoch < x.epoch)) = false ∧ t3 = ((t2) : (List Hrd))) →
 (br (x.kind == 2)
 (Rf (t3.map Hrd.v) (ck (decide ((posH l.heard x.src : Int).toNat < t3.length))
 (∀ x9, t3[(posH l.heard x.src : Int).toNat]? = some x9 →
 br (x.epoch == x9.epoch)
 (Rf (t3.map Hrd.v) (ck (decide ((posH l.heard x.src : Int).toNat < t3.length))
 (∀ x10, t3[(posH l.heard x.src : Int).toNat]? = some x10 →
 br (decide (x.prev ≤ x10.ver))
 (Rf (t3.map Hrd.v) (ck (decide ((posH l.heard x.src : Int).toNat < t3.length))
 (∀ x11, t3[(posH l.heard x.src : Int).toNat]? = some x11 →
 br (decide (x11.ver < x.ver))
 (Rf (t3.map Hrd.v) (ck (decide ((posH l.heard x.src : Int).toNat < t3.length))
 (∀ x12, t3[(posH l.heard x.src : Int).toNat]? = some x12 →
 ∃ h13 : okItms x12.items,
 Ch (copied_h x12.items x.grp h13) [] 598
 (∃ h14 : (⟨x.mode, x.srcs⟩ : Flt).srcs.length ≤ 1000000,
 Cl (filtered_c (⟨x.mode, x.srcs⟩ : Flt) h14)
 (Rf (α := List AV) ((without x.grp x12.items).map Itm.v) (Rf (α := List AV) [.agg [.int x.ver, .int x.grp, .int x.mode, .sl 1 (x.srcs.map AV.int) false]]
 (ck (decide ((without x.grp x12.items).length + 1 ≤ 1000000))
 (Rf (t3.map Hrd.v) (ck (decide ((posH l.heard x.src : Int).toNat < t3.length))
 (∀ y15, t3[(posH l.heard x.src : Int).toNat]? = some y15 →
 (Rf (α := List AV) (((without x.grp x12.items) ++ [(⟨x.ver, x.grp, x.mode, x.srcs⟩ : Itm)]).map Itm.v) (Rf (α := List AV) ((t3.map Hrd.v).set ((posH l.heard x.src : Int).toNat) (.agg [.int y15.router, .int y15.epoch, .int y15.ver, .vec 758])) (Rf (Hrd.v (⟨y15.router, y15.epoch, y15.ver, (without x.grp x12.items) ++ [(⟨x.ver, x.grp, x.mode, x.srcs⟩ : Itm)]⟩ : Hrd))
 (Rf ((t3.set ((posH l.heard x.src : Int).toNat) (⟨y15.router, y15.epoch, y15.ver, (without x.grp x12.items) ++ [(⟨x.ver, x.grp, x.mode, x.srcs⟩ : Itm)]⟩ : Hrd)).map Hrd.v) (ck (decide ((posH l.heard x.src : Int).toNat < (t3.set ((posH l.heard x.src : Int).toNat) (⟨y15.router, y15.epoch, y15.ver, (without x.grp x12.items) ++ [(⟨x.ver, x.grp, x.mode, x.srcs⟩ : Itm)]⟩ : Hrd)).length))
 (∀ y16, (t3.set ((posH l.heard x.src : Int).toNat) (⟨y15.router, y15.epoch, y15.ver, (without x.grp x12.items) ++ [(⟨x.ver, x.grp, x.mode, x.srcs⟩ : Itm)]⟩ : Hrd))[(posH l.heard x.src : Int).toNat]? = some y16 → Rf (Hrd.v (⟨y16.router, y16.epoch, x.ver, y16.items⟩ : Hrd))
 (Nf (hearF_n4 l x t0 t1 t2 t3 ((t3.set ((posH l.heard x.src : Int).toNat) (⟨y15.router, y15.epoch, y15.ver, (without x.grp x12.items) ++ [(⟨x.ver, x.grp, x.mode, x.srcs⟩ : Itm)]⟩ : Hrd)).set ((posH l.heard x.src : Int).toNat) (⟨y16.router, y16.epoch, x.ver, y16.items⟩ : Hrd))) [0, 1, 2, 3, 4, 5] (((x.kind == 2) = true ∧ ∃ x9' : Hrd, t3[(posH l.heard x.src : Int).toNat]? = some x9' ∧ (x.epoch == x9'.epoch) = true ∧ ∃ x10' : Hrd, t3[(posH l.heard x.src : Int).toNat]? = some x10' ∧ (decide (x.prev ≤ x10'.ver)) = true ∧ ∃ x11' : Hrd, t3[(posH l.heard x.src : Int).toNat]? = some x11' ∧ (decide (x11'.ver < x.ver)) = true ∧ ∃ x12' : Hrd, t3[(posH l.heard x.src : Int).toNat]? = some x12' ∧ ∃ y15' : Hrd, t3[(posH l.heard x.src : Int).toNat]? = some y15' ∧ ∃ y16' : Hrd, (t3.set ((posH l.heard x.src : Int).toNat) (⟨y15'.router, y15'.epoch, y15'.ver, (without x.grp x12'.items) ++ [(⟨x.ver, x.grp, x.mode, x.srcs⟩ : Itm)]⟩ : Hrd))[(posH l.heard x.src : Int).toNat]? = some y16' ∧ (((t3.set ((posH l.heard x.src : Int).toNat) (⟨y15.router, y15.epoch, y15.ver, (without x.grp x12.items) ++ [(⟨x.ver, x.grp, x.mode, x.srcs⟩ : Itm)]⟩ : Hrd)).set ((posH l.heard x.src : Int).toNat) (⟨y16.router, y16.epoch, x.ver, y16.items⟩ : Hrd)) : (List Hrd)) = (((t3.set ((posH l.heard x.src : Int).toNat) (⟨y15'.router, y15'.epoch, y15'.ver, (without x.grp x12'.items) ++ [(⟨x.ver, x.grp, x.mode, x.srcs⟩ : Itm)]⟩ : Hrd)).set ((posH l.heard x.src : Int).toNat) (⟨y16'.router, y16'.epoch, x.ver, y16'.items⟩ : Hrd)) : (List Hrd))) ∨ ((x.kind == 2) = true ∧ ∃ x9' : Hrd, t3[(posH l.heard x.src : Int).toNat]? = some x9' ∧ (x.epoch == x9'.epoch) = true ∧ ∃ x10' : Hrd, t3[(posH l.heard x.src : Int).toNat]? = some x10' ∧ (decide (x.prev ≤ x10'.ver)) = true ∧ ∃ x11' : Hrd, t3[(posH l.heard x.src : Int).toNat]? = some x11' ∧ (decide (x11'.ver < x.ver)) = false ∧ (((t3.set ((posH l.heard x.src : Int).toNat) (⟨y15.router, y15.epoch, y15.ver, (without x.grp x12.items) ++ [(⟨x.ver, x.grp, x.mode, x.srcs⟩ : Itm)]⟩ : Hrd)).set ((posH l.heard x.src : Int).toNat) (⟨y16.router, y16.epoch, x.ver, y16.items⟩ : Hrd)) : (List Hrd)) = ((t3) : (List Hrd))) ∨ ((x.kind == 2) = true ∧ ∃ x9' : Hrd, t3[(posH l.heard x.src : Int).toNat]? = some x9' ∧ (x.epoch == x9'.epoch) = true ∧ ∃ x10' : Hrd, t3[(posH l.heard x.src : Int).toNat]? = some x10' ∧ (decide (x.prev ≤ x10'.ver)) = false ∧ (((t3.set ((posH l.heard x.src : Int).toNat) (⟨y15.router, y15.epoch, y15.ver, (without x.grp x12.items) ++ [(⟨x.ver, x.grp, x.mode, x.srcs⟩ : Itm)]⟩ : Hrd)).set ((posH l.heard x.src : Int).toNat) (⟨y16.router, y16.epoch, x.ver, y16.items⟩ : Hrd)) : (List Hrd)) = ((t3) : (List Hrd))) ∨ ((x.kind == 2) = true ∧ ∃ x9' : Hrd, t3[(posH l.heard x.src : Int).toNat]? = some x9' ∧ (x.epoch == x9'.epoch) = false ∧ (((t3.set ((posH l.heard x.src : Int).toNat) (⟨y15.router, y15.epoch, y15.ver, (without x.grp x12.items) ++ [(⟨x.ver, x.grp, x.mode, x.srcs⟩ : Itm)]⟩ : Hrd)).set ((posH l.heard x.src : Int).toNat) (⟨y16.router, y16.epoch, x.ver, y16.items⟩ : Hrd)) : (List Hrd)) = ((t3) : (List Hrd))) ∨ ((x.kind == 2) = false ∧ (((t3.set ((posH l.heard x.src : Int).toNat) (⟨y15.router, y15.epoch, y15.ver, (without x.grp x12.items) ++ [(⟨x.ver, x.grp, x.mode, x.srcs⟩ : Itm)]⟩ : Hrd)).set ((posH l.heard x.src : Int).toNat) (⟨y16.router, y16.epoch, x.ver, y16.items⟩ : Hrd)) : (List Hrd)) = ((t3) : (List Hrd)))))))))))))))))))))
 (Nf (hearF_n4 l x t0 t1 t2 t3 (t3)) [0, 1, 2, 3, 4, 5] (((x.kind == 2) = true ∧ ∃ x9' : Hrd, t3[(posH l.heard x.src : Int).toNat]? = some x9' ∧ (x.epoch == x9'.epoch) = true ∧ ∃ x10' : Hrd, t3[(posH l.heard x.src : Int).toNat]? = some x10' ∧ (decide (x.prev ≤ x10'.ver)) = true ∧ ∃ x11' : Hrd, t3[(posH l.heard x.src : Int).toNat]? = some x11' ∧ (decide (x11'.ver < x.ver)) = true ∧ ∃ x12' : Hrd, t3[(posH l.heard x.src : Int).toNat]? = some x12' ∧ ∃ y15' : Hrd, t3[(posH l.heard x.src : Int).toNat]? = some y15' ∧ ∃ y16' : Hrd, (t3.set ((posH l.heard x.src : Int).toNat) (⟨y15'.router, y15'.epoch, y15'.ver, (without x.grp x12'.items) ++ [(⟨x.ver, x.grp, x.mode, x.srcs⟩ : Itm)]⟩ : Hrd))[(posH l.heard x.src : Int).toNat]? = some y16' ∧ ((t3) : (List Hrd)) = (((t3.set ((posH l.heard x.src : Int).toNat) (⟨y15'.router, y15'.epoch, y15'.ver, (without x.grp x12'.items) ++ [(⟨x.ver, x.grp, x.mode, x.srcs⟩ : Itm)]⟩ : Hrd)).set ((posH l.heard x.src : Int).toNat) (⟨y16'.router, y16'.epoch, x.ver, y16'.items⟩ : Hrd)) : (List Hrd))) ∨ ((x.kind == 2) = true ∧ ∃ x9' : Hrd, t3[(posH l.heard x.src : Int).toNat]? = some x9' ∧ (x.epoch == x9'.epoch) = true ∧ ∃ x10' : Hrd, t3[(posH l.heard x.src : Int).toNat]? = some x10' ∧ (decide (x.prev ≤ x10'.ver)) = true ∧ ∃ x11' : Hrd, t3[(posH l.heard x.src : Int).toNat]? = some x11' ∧ (decide (x11'.ver < x.ver)) = false ∧ ((t3) : (List Hrd)) = ((t3) : (List Hrd))) ∨ ((x.kind == 2) = true ∧ ∃ x9' : Hrd, t3[(posH l.heard x.src : Int).toNat]? = some x9' ∧ (x.epoch == x9'.epoch) = true ∧ ∃ x10' : Hrd, t3[(posH l.heard x.src : Int).toNat]? = some x10' ∧ (decide (x.prev ≤ x10'.ver)) = false ∧ ((t3) : (List Hrd)) = ((t3) : (List Hrd))) ∨ ((x.kind == 2) = true ∧ ∃ x9' : Hrd, t3[(posH l.heard x.src : Int).toNat]? = some x9' ∧ (x.epoch == x9'.epoch) = false ∧ ((t3) : (List Hrd)) = ((t3) : (List Hrd))) ∨ ((x.kind == 2) = false ∧ ((t3) : (List Hrd)) = ((t3) : (List Hrd))))))))
 (Nf (hearF_n4 l x t0 t1 t2 t3 (t3)) [0, 1, 2, 3, 4, 5] (((x.kind == 2) = true ∧ ∃ x9' : Hrd, t3[(posH l.heard x.src : Int).toNat]? = some x9' ∧ (x.epoch == x9'.epoch) = true ∧ ∃ x10' : Hrd, t3[(posH l.heard x.src : Int).toNat]? = some x10' ∧ (decide (x.prev ≤ x10'.ver)) = true ∧ ∃ x11' : Hrd, t3[(posH l.heard x.src : Int).toNat]? = some x11' ∧ (decide (x11'.ver < x.ver)) = true ∧ ∃ x12' : Hrd, t3[(posH l.heard x.src : Int).toNat]? = some x12' ∧ ∃ y15' : Hrd, t3[(posH l.heard x.src : Int).toNat]? = some y15' ∧ ∃ y16' : Hrd, (t3.set ((posH l.heard x.src : Int).toNat) (⟨y15'.router, y15'.epoch, y15'.ver, (without x.grp x12'.items) ++ [(⟨x.ver, x.grp, x.mode, x.srcs⟩ : Itm)]⟩ : Hrd))[(posH l.heard x.src : Int).toNat]? = some y16' ∧ ((t3) : (List Hrd)) = (((t3.set ((posH l.heard x.src : Int).toNat) (⟨y15'.router, y15'.epoch, y15'.ver, (without x.grp x12'.items) ++ [(⟨x.ver, x.grp, x.mode, x.srcs⟩ : Itm)]⟩ : Hrd)).set ((posH l.heard x.src : Int).toNat) (⟨y16'.router, y16'.epoch, x.ver, y16'.items⟩ : Hrd)) : (List Hrd))) ∨ ((x.kind == 2) = true ∧ ∃ x9' : Hrd, t3[(posH l.heard x.src : Int).toNat]? = some x9' ∧ (x.epoch == x9'.epoch) = true ∧ ∃ x10' : Hrd, t3[(posH l.heard x.src : Int).toNat]? = some x10' ∧ (decide (x.prev ≤ x10'.ver)) = true ∧ ∃ x11' : Hrd, t3[(posH l.heard x.src : Int).toNat]? = some x11' ∧ (decide (x11'.ver < x.ver)) = false ∧ ((t3) : (List Hrd)) = ((t3) : (List Hrd))) ∨ ((x.kind == 2) = true ∧ ∃ x9' : Hrd, t3[(posH l.heard x.src : Int).toNat]? = some x9' ∧ (x.epoch == x9'.epoch) = true ∧ ∃ x10' : Hrd, t3[(posH l.heard x.src : Int).toNat]? = some x10' ∧ (decide (x.prev ≤ x10'.ver)) = false ∧ ((t3) : (List Hrd)) = ((t3) : (List Hrd))) ∨ ((x.kind == 2) = true ∧ ∃ x9' : Hrd, t3[(posH l.heard x.src : Int).toNat]? = some x9' ∧ (x.epoch == x9'.epoch) = false ∧ ((t3) : (List Hrd)) = ((t3) : (List Hrd))) ∨ ((x.kind == 2) = false ∧ ((t3) : (List Hrd)) = ((t3) : (List Hrd))))))))
 (Nf (hearF_n4 l x t0 t1 t2 t3 (t3)) [0, 1, 2, 3, 4, 5] (((x.kind == 2) = true ∧ ∃ x9' : Hrd, t3[(posH l.heard x.src : Int).toNat]? = some x9' ∧ (x.epoch == x9'.epoch) = true ∧ ∃ x10' : Hrd, t3[(posH l.heard x.src : Int).toNat]? = some x10' ∧ (decide (x.prev ≤ x10'.ver)) = true ∧ ∃ x11' : Hrd, t3[(posH l.heard x.src : Int).toNat]? = some x11' ∧ (decide (x11'.ver < x.ver)) = true ∧ ∃ x12' : Hrd, t3[(posH l.heard x.src : Int).toNat]? = some x12' ∧ ∃ y15' : Hrd, t3[(posH l.heard x.src : Int).toNat]? = some y15' ∧ ∃ y16' : Hrd, (t3.set ((posH l.heard x.src : Int).toNat) (⟨y15'.router, y15'.epoch, y15'.ver, (without x.grp x12'.items) ++ [(⟨x.ver, x.grp, x.mode, x.srcs⟩ : Itm)]⟩ : Hrd))[(posH l.heard x.src : Int).toNat]? = some y16' ∧ ((t3) : (List Hrd)) = (((t3.set ((posH l.heard x.src : Int).toNat) (⟨y15'.router, y15'.epoch, y15'.ver, (without x.grp x12'.items) ++ [(⟨x.ver, x.grp, x.mode, x.srcs⟩ : Itm)]⟩ : Hrd)).set ((posH l.heard x.src : Int).toNat) (⟨y16'.router, y16'.epoch, x.ver, y16'.items⟩ : Hrd)) : (List Hrd))) ∨ ((x.kind == 2) = true ∧ ∃ x9' : Hrd, t3[(posH l.heard x.src : Int).toNat]? = some x9' ∧ (x.epoch == x9'.epoch) = true ∧ ∃ x10' : Hrd, t3[(posH l.heard x.src : Int).toNat]? = some x10' ∧ (decide (x.prev ≤ x10'.ver)) = true ∧ ∃ x11' : Hrd, t3[(posH l.heard x.src : Int).toNat]? = some x11' ∧ (decide (x11'.ver < x.ver)) = false ∧ ((t3) : (List Hrd)) = ((t3) : (List Hrd))) ∨ ((x.kind == 2) = true ∧ ∃ x9' : Hrd, t3[(posH l.heard x.src : Int).toNat]? = some x9' ∧ (x.epoch == x9'.epoch) = true ∧ ∃ x10' : Hrd, t3[(posH l.heard x.src : Int).toNat]? = some x10' ∧ (decide (x.prev ≤ x10'.ver)) = false ∧ ((t3) : (List Hrd)) = ((t3) : (List Hrd))) ∨ ((x.kind == 2) = true ∧ ∃ x9' : Hrd, t3[(posH l.heard x.src : Int).toNat]? = some x9' ∧ (x.epoch == x9'.epoch) = false ∧ ((t3) : (List Hrd)) = ((t3) : (List Hrd))) ∨ ((x.kind == 2) = false ∧ ((t3) : (List Hrd)) = ((t3) : (List Hrd))))))))
 (Nf (hearF_n4 l x t0 t1 t2 t3 (t3)) [0, 1, 2, 3, 4, 5] (((x.kind == 2) = true ∧ ∃ x9' : Hrd, t3[(posH l.heard x.src : Int).toNat]? = some x9' ∧ (x.epoch == x9'.epoch) = true ∧ ∃ x10' : Hrd, t3[(posH l.heard x.src : Int).toNat]? = some x10' ∧ (decide (x.prev ≤ x10'.ver)) = true ∧ ∃ x11' : Hrd, t3[(posH l.heard x.src : Int).toNat]? = some x11' ∧ (decide (x11'.ver < x.ver)) = true ∧ ∃ x12' : Hrd, t3[(posH l.heard x.src : Int).toNat]? = some x12' ∧ ∃ y15' : Hrd, t3[(posH l.heard x.src : Int).toNat]? = some y15' ∧ ∃ y16' : Hrd, (t3.set ((posH l.heard x.src : Int).toNat) (⟨y15'.router, y15'.epoch, y15'.ver, (without x.grp x12'.items) ++ [(⟨x.ver, x.grp, x.mode, x.srcs⟩ : Itm)]⟩ : Hrd))[(posH l.heard x.src : Int).toNat]? = some y16' ∧ ((t3) : (List Hrd)) = (((t3.set ((posH l.heard x.src : Int).toNat) (⟨y15'.router, y15'.epoch, y15'.ver, (without x.grp x12'.items) ++ [(⟨x.ver, x.grp, x.mode, x.srcs⟩ : Itm)]⟩ : Hrd)).set ((posH l.heard x.src : Int).toNat) (⟨y16'.router, y16'.epoch, x.ver, y16'.items⟩ : Hrd)) : (List Hrd))) ∨ ((x.kind == 2) = true ∧ ∃ x9' : Hrd, t3[(posH l.heard x.src : Int).toNat]? = some x9' ∧ (x.epoch == x9'.epoch) = true ∧ ∃ x10' : Hrd, t3[(posH l.heard x.src : Int).toNat]? = some x10' ∧ (decide (x.prev ≤ x10'.ver)) = true ∧ ∃ x11' : Hrd, t3[(posH l.heard x.src : Int).toNat]? = some x11' ∧ (decide (x11'.ver < x.ver)) = false ∧ ((t3) : (List Hrd)) = ((t3) : (List Hrd))) ∨ ((x.kind == 2) = true ∧ ∃ x9' : Hrd, t3[(posH l.heard x.src : Int).toNat]? = some x9' ∧ (x.epoch == x9'.epoch) = true ∧ ∃ x10' : Hrd, t3[(posH l.heard x.src : Int).toNat]? = some x10' ∧ (decide (x.prev ≤ x10'.ver)) = false ∧ ((t3) : (List Hrd)) = ((t3) : (List Hrd))) ∨ ((x.kind == 2) = true ∧ ∃ x9' : Hrd, t3[(posH l.heard x.src : Int).toNat]? = some x9' ∧ (x.epoch == x9'.epoch) = false ∧ ((t3) : (List Hrd)) = ((t3) : (List Hrd))) ∨ ((x.kind == 2) = false ∧ ((t3) : (List Hrd)) = ((t3) : (List Hrd)))))) ∧ ∀ t4 : (List Hrd), ((x.kind == 2) = true ∧ ∃ x9' : Hrd, t3[(posH l.heard x.src : Int).toNat]? = some x9' ∧ (x.epoch == x9'.epoch) = true ∧ ∃ x10' : Hrd, t3[(posH l.heard x.src : Int).toNat]? = some x10' ∧ (decide (x.prev ≤ x10'.ver)) = true ∧ ∃ x11' : Hrd, t3[(posH l.heard x.src : Int).toNat]? = some x11' ∧ (decide (x11'.ver < x.ver)) = true ∧ ∃ x12' : Hrd, t3[(posH l.heard x.src : Int).toNat]? = some x12' ∧ ∃ y15' : Hrd, t3[(posH l.heard x.src : Int).toNat]? = some y15' ∧ ∃ y16' : Hrd, (t3.set ((posH l.heard x.src : Int).toNat) (⟨y15'.router, y15'.epoch, y15'.ver, (without x.grp x12'.items) ++ [(⟨x.ver, x.grp, x.mode, x.srcs⟩ : Itm)]⟩ : Hrd))[(posH l.heard x.src : Int).toNat]? = some y16' ∧ t4 = (((t3.set ((posH l.heard x.src : Int).toNat) (⟨y15'.router, y15'.epoch, y15'.ver, (without x.grp x12'.items) ++ [(⟨x.ver, x.grp, x.mode, x.srcs⟩ : Itm)]⟩ : Hrd)).set ((posH l.heard x.src : Int).toNat) (⟨y16'.router, y16'.epoch, x.ver, y16'.items⟩ : Hrd)) : (List Hrd))) ∨ ((x.kind == 2) = true ∧ ∃ x9' : Hrd, t3[(posH l.heard x.src : Int).toNat]? = some x9' ∧ (x.epoch == x9'.epoch) = true ∧ ∃ x10' : Hrd, t3[(posH l.heard x.src : Int).toNat]? = some x10' ∧ (decide (x.prev ≤ x10'.ver)) = true ∧ ∃ x11' : Hrd, t3[(posH l.heard x.src : Int).toNat]? = some x11' ∧ (decide (x11'.ver < x.ver)) = false ∧ t4 = ((t3) : (List Hrd))) ∨ ((x.kind == 2) = true ∧ ∃ x9' : Hrd, t3[(posH l.heard x.src : Int).toNat]? = some x9' ∧ (x.epoch == x9'.epoch) = true ∧ ∃ x10' : Hrd, t3[(posH l.heard x.src : Int).toNat]? = some x10' ∧ (decide (x.prev ≤ x10'.ver)) = false ∧ t4 = ((t3) : (List Hrd))) ∨ ((x.kind == 2) = true ∧ ∃ x9' : Hrd, t3[(posH l.heard x.src : Int).toNat]? = some x9' ∧ (x.epoch == x9'.epoch) = false ∧ t4 = ((t3) : (List Hrd))) ∨ ((x.kind == 2) = false ∧ t4 = ((t3) : (List Hrd))) →
 Rf (t4.map Hrd.v) (ck (decide ((posH l.heard x.src : Int).toNat < t4.length))
 (∀ x17, t4[(posH l.heard x.src : Int).toNat]? = some x17 →
 Rf (t4.map Hrd.v) (ck (decide ((posH l.heard x.src : Int).toNat < t4.length))
 (∀ x18, t4[(posH l.heard x.src : Int).toNat]? = some x18 →
 Rf (t4.map Hrd.v) (Rf (hearF_e ((⟨l.router, l.epoch, t4⟩ : Lsn), (⟨3, l.router, x.src, x17.epoch, x18.ver, 0, l.epoch, 0, 0, []⟩ : Sig), 0)) (((⟨l.router, l.epoch, t4⟩ : Lsn), (⟨3, l.router, x.src, x17.epoch, x18.ver, 0, l.epoch, 0, 0, []⟩ : Sig), 0) = r0)))))))))))))))
theorem hearF_eq (l : Lsn) (x : Sig) (I1 : Unit → (Int × (List Hrd)) → Prop) (m1 : Unit → (Int × (List Hrd)) → Nat) (r0 : Lsn × Sig × Int) : mxP Tryz.prog 28 [.agg [.int l.router, .int l.epoch, .sl 4 (l.heard.map Hrd.v) false], .agg [.int x.kind, .int x.src, .int x.dst, .int x.epoch, .int x.ver, .int x.prev, .int x.pep, .int x.grp, .int x.mode, .sl 1 (x.srcs.map AV.int) false]] (.a [(.a [.k, .k, (.s 4)]), (.a [.k, .k, .k, .k, .k, .k, .k, .k, .k, (.s 1)]), .k]) hearF_e ((.callP (valL_c l)
 (.callP (sigV_c x)
 (.callP (orI_c [valL l, sigErr x])
 (.br 224 (.ret ((⟨0, 0, []⟩ : Lsn), (⟨0, 0, 0, 0, 0, 0, 0, 0, 0, []⟩ : Sig), orI [valL l, sigErr x]))
 (.br 288 (.ret ((⟨0, 0, []⟩ : Lsn), (⟨0, 0, 0, 0, 0, 0, 0, 0, 0, []⟩ : Sig), 1))
 (.br 384 (.ret ((⟨0, 0, []⟩ : Lsn), (⟨0, 0, 0, 0, 0, 0, 0, 0, 0, []⟩ : Sig), 1))
 (.req 432 (l.heard.Pairwise fun x y => x.router < y.router) fun h1 =>
 (.req 432 (l.heard.length ≤ 1000000) fun h2 =>
 (.callP (heard_c l x.src h1 h2)
 (.join 0 (hearF_n0 l x) (fun t0 => (bif (!(decide (hitH l.heard x.src))) then (bif (((l.heard.map Hrd.v).length : Int) == 12) then false else true) else true) = true) (.br 576 (.br 656 (.ret ((⟨0, 0, []⟩ : Lsn), (⟨0, 0, 0, 0, 0, 0, 0, 0, 0, []⟩ : Sig), 3))
 (.back 0 ((()) : Unit) [0, 16, 32, 48]))
 (.back 0 ((()) : Unit) [0, 16, 32, 48])) fun (t0 : Unit) =>
 (.cmdL (.nilB 84 2 4) (.loop 1 (hearF_n1 l x t0) (I1 t0) (m1 t0) ((0, []) : Int × (List Hrd)) [0, 1, 2, 3, 84, 180] fun (t1 : Int × (List Hrd)) =>
 (.br 22 (.el 22 Hrd.v l.heard fun x3 =>
 (.req 118 (okItms x3.items) fun h4 =>
 (.callH [] (copied_h x3.items 0 h4)
 (.cmd (.frzE 118 ((without 0 x3.items).map Itm.v) (pureBL_map (fun _ => rfl) (without 0 x3.items))) (.app 230 Hrd.v t1.2 [(⟨x3.router, x3.epoch, x3.ver, without 0 x3.items⟩ : Hrd)]
 (.back 1 ((W (t1.1 + 1), t1.2 ++ [(⟨x3.router, x3.epoch, x3.ver, without 0 x3.items⟩ : Hrd)]) : Int × (List Hrd)) [0, 1, 2, 3, 4, 230]))))))
 (.join 2 (hearF_n2 l x t0 t1) (fun t2 => t2 = ((bif (!(decide (hitH l.heard x.src))) then (insAt t1.2 (posH l.heard x.src) (⟨x.src, 0, 0, []⟩ : Hrd)) else (t1.2)) : (List Hrd))) (.br 54 (.own 150 (.req 166 ((posH l.heard x.src) ≤ t1.2.length) fun h5 =>
 (.req 166 (t1.2.length ≤ 1000000) fun h6 =>
 (.callH [5, 150] (insH_h t1.2 x.src (posH l.heard x.src) h5 h6)
 (.back 2 ((insAt t1.2 (posH l.heard x.src) (⟨x.src, 0, 0, []⟩ : Hrd)) : (List Hrd)) [0, 1, 2, 3, 4, 166])))))
 (.back 2 ((t1.2) : (List Hrd)) [0, 1, 2, 3, 4, 5])) fun (t2 : (List Hrd)) =>
 (.pass (.join 3 (hearF_n3 l x t0 t1 t2) (fun t3 => (∃ x7' : Hrd, t2[(posH l.heard x.src : Int).toNat]? = some x7' ∧ (decide (x7'.epoch < x.epoch)) = true ∧ ∃ y8' : Hrd, t2[(posH l.heard x.src : Int).toNat]? = some y8' ∧ t3 = ((t2.set ((posH l.heard x.src : Int).toNat) (⟨x.src, x.epoch, 0, []⟩ : Hrd)) : (List Hrd))) ∨ (∃ x7' : Hrd, t2[(posH l.heard x.src : Int).toNat]? = some x7' ∧ (decide (x7'.epoch < x.epoch)) = false ∧ t3 = ((t2) : (List Hrd)))) (.el 166 Hrd.v t2 fun x7 =>
 (.br 198 (.stI 310 Hrd.v t2 fun y8 =>
 (.cmd (.wkS 5 ((posH l.heard x.src : Int).toNat) (.a [.k, .k, .k, (.s 4)]) Hrd.v t2 (.agg [.int x.src, .int x.epoch, .int 0, .sl 0 [] true]) (⟨x.src, x.epoch, 0, []⟩ : Hrd)) (.back 3 ((t2.set ((posH l.heard x.src : Int).toNat) (⟨x.src, x.epoch, 0, []⟩ : Hrd)) : (List Hrd)) [0, 1, 2, 3, 4, 5])))
 (.back 3 ((t2) : (List Hrd)) [0, 1, 2, 3, 4, 5]))) fun (t3 : (List Hrd)) =>
 (.join 4 (hearF_n4 l x t0 t1 t2 t3) (fun t4 => ((x.kind == 2) = true ∧ ∃ x9' : Hrd, t3[(posH l.heard x.src : Int).toNat]? = some x9' ∧ (x.epoch == x9'.epoch) = true ∧ ∃ x10' : Hrd, t3[(posH l.heard x.src : Int).toNat]? = some x10' ∧ (decide (x.prev ≤ x10'.ver)) = true ∧ ∃ x11' : Hrd, t3[(posH l.heard x.src : Int).toNat]? = some x11' ∧ (decide (x11'.ver < x.ver)) = true ∧ ∃ x12' : Hrd, t3[(posH l.heard x.src : Int).toNat]? = some x12' ∧ ∃ y15' : Hrd, t3[(posH l.heard x.src : Int).toNat]? = some y15' ∧ ∃ y16' : Hrd, (t3.set ((posH l.heard x.src : Int).toNat) (⟨y15'.router, y15'.epoch, y15'.ver, (without x.grp x12'.items) ++ [(⟨x.ver, x.grp, x.mode, x.srcs⟩ : Itm)]⟩ : Hrd))[(posH l.heard x.src : Int).toNat]? = some y16' ∧ t4 = (((t3.set ((posH l.heard x.src : Int).toNat) (⟨y15'.router, y15'.epoch, y15'.ver, (without x.grp x12'.items) ++ [(⟨x.ver, x.grp, x.mode, x.srcs⟩ : Itm)]⟩ : Hrd)).set ((posH l.heard x.src : Int).toNat) (⟨y16'.router, y16'.epoch, x.ver, y16'.items⟩ : Hrd)) : (List Hrd))) ∨ ((x.kind == 2) = true ∧ ∃ x9' : Hrd, t3[(posH l.heard x.src : Int).toNat]? = some x9' ∧ (x.epoch == x9'.epoch) = true ∧ ∃ x10' : Hrd, t3[(posH l.heard x.src : Int).toNat]? = some x10' ∧ (decide (x.prev ≤ x10'.ver)) = true ∧ ∃ x11' : Hrd, t3[(posH l.heard x.src : Int).toNat]? = some x11' ∧ (decide (x11'.ver < x.ver)) = false ∧ t4 = ((t3) : (List Hrd))) ∨ ((x.kind == 2) = true ∧ ∃ x9' : Hrd, t3[(posH l.heard x.src : Int).toNat]? = some x9' ∧ (x.epoch == x9'.epoch) = true ∧ ∃ x10' : Hrd, t3[(posH l.heard x.src : Int).toNat]? = some x10' ∧ (decide (x.prev ≤ x10'.ver)) = false ∧ t4 = ((t3) : (List Hrd))) ∨ ((x.kind == 2) = true ∧ ∃ x9' : Hrd, t3[(posH l.heard x.src : Int).toNat]? = some x9' ∧ (x.epoch == x9'.epoch) = false ∧ t4 = ((t3) : (List Hrd))) ∨ ((x.kind == 2) = false ∧ t4 = ((t3) : (List Hrd)))) (.br 70 (.el 150 Hrd.v t3 fun x9 =>
 (.br 214 (.el 294 Hrd.v t3 fun x10 =>
 (.br 358 (.el 406 Hrd.v t3 fun x11 =>
 (.br 486 (.el 550 Hrd.v t3 fun x12 =>
 (.req 598 (okItms x12.items) fun h13 =>
 (.callH [] (copied_h x12.items x.grp h13)
 (.req 710 ((⟨x.mode, x.srcs⟩ : Flt).srcs.length ≤ 1000000) fun h14 =>
 (.callP (filtered_c (⟨x.mode, x.srcs⟩ : Flt) h14)
 (.app 758 Itm.v (without x.grp x12.items) [(⟨x.ver, x.grp, x.mode, x.srcs⟩ : Itm)]
 (.stI 806 Hrd.v t3 fun y15 =>
 (.cmd (.frzV 758 5 ((posH l.heard x.src : Int).toNat) Hrd.v t3 (.agg [.int y15.router, .int y15.epoch, .int y15.ver, .vec 758]) (⟨y15.router, y15.epoch, y15.ver, (without x.grp x12.items) ++ [(⟨x.ver, x.grp, x.mode, x.srcs⟩ : Itm)]⟩ : Hrd) (((without x.grp x12.items) ++ [(⟨x.ver, x.grp, x.mode, x.srcs⟩ : Itm)]).map Itm.v) (pureBL_map (fun _ => rfl) ((without x.grp x12.items) ++ [(⟨x.ver, x.grp, x.mode, x.srcs⟩ : Itm)]))) (.st 902 Hrd.v (t3.set ((posH l.heard x.src : Int).toNat) (⟨y15.router, y15.epoch, y15.ver, (without x.grp x12.items) ++ [(⟨x.ver, x.grp, x.mode, x.srcs⟩ : Itm)]⟩ : Hrd)) (fun y16 => (⟨y16.router, y16.epoch, x.ver, y16.items⟩ : Hrd)) fun y16 =>
 (.back 4 (((t3.set ((posH l.heard x.src : Int).toNat) (⟨y15.router, y15.epoch, y15.ver, (without x.grp x12.items) ++ [(⟨x.ver, x.grp, x.mode, x.srcs⟩ : Itm)]⟩ : Hrd)).set ((posH l.heard x.src : Int).toNat) (⟨y16.router, y16.epoch, x.ver, y16.items⟩ : Hrd)) : (List Hrd)) [0, 1, 2, 3, 4, 5]))))))))))
 (.back 4 ((t3) : (List Hrd)) [0, 1, 2, 3, 4, 5])))
 (.back 4 ((t3) : (List Hrd)) [0, 1, 2, 3, 4, 5])))
 (.back 4 ((t3) : (List Hrd)) [0, 1, 2, 3, 4, 5])))
 (.back 4 ((t3) : (List Hrd)) [0, 1, 2, 3, 4, 5])) fun (t4 : (List Hrd)) =>
 (.el 134 Hrd.v t4 fun x17 =>
 (.el 198 Hrd.v t4 fun x18 =>
 (.cmdL (.frzE 5 (t4.map Hrd.v) (pureBL_map (fun _ => rfl) t4)) (.ret ((⟨l.router, l.epoch, t4⟩ : Lsn), (⟨3, l.router, x.src, x17.epoch, x18.ver, 0, l.epoch, 0, 0, []⟩ : Sig), 0)))))))))))))))))))))) : An Tryz.prog hearF_s (Lsn × Sig × Int)) r0 = hearF_vc l x I1 m1 r0 := by kernel_rfl
theorem hearF_ok (l : Lsn) (x : Sig) (I1 : Unit → (Int × (List Hrd)) → Prop) (m1 : Unit → (Int × (List Hrd)) → Nat) (r0 : Lsn × Sig × Int) (h : hearF_vc l x I1 m1 r0) : PSpec Tryz.prog 28 [.agg [.int l.router, .int l.epoch, .sl 4 (l.heard.map Hrd.v) false], .agg [.int x.kind, .int x.src, .int x.dst, .int x.epoch, .int x.ver, .int x.prev, .int x.pep, .int x.grp, .int x.mode, .sl 1 (x.srcs.map AV.int) false]] (hearF_e r0) := by
  have e := hearF_eq l x I1 m1 r0
  rw [← e] at h
  exact mxP_ok (enc := hearF_e) h (AV.pureB_ok rfl)
theorem hearF_p (l : Lsn) (x : Sig) (ok : hearF_a l x) : ∃ I m, hearF_vc l x I m ((hear l x).1.1, (hear l x).1.2, (hear l x).2) := by
  simp only [hearF_a, okU, Blk.ok, plainV, List.length_map] at ok
  refine ⟨fun _ t => ∃ k : Nat, t = ((k : Int), l.heard.take k) ∧ k ≤ l.heard.length, fun _ t => l.heard.length - t.1.toNat, ?_⟩
  simp only [hearF_vc, vcU, rfU, List.length_map]
  rw [orI_two]
  by_cases hs : lsnOk l
  case neg => simp [hear, valL, errIf, hs, lsn0, sig0]
  rw [show valL l = 0 from errIf_pos hs, if_neg (by simp)]
  by_cases hx : sigErr x = 0
  case neg => simp [hear, hs, hx, lsn0, sig0]
  refine ⟨fun e => by simp [hx] at e, fun _ => ⟨fun e => ?_, fun e1 => ⟨fun e => ?_, fun e2 => ?_⟩⟩⟩
  · have e : x.kind = 3 := by simpa using e
    rw [hear, if_neg (not_not_intro hs), if_neg (not_not_intro hx), if_pos (.inl e)]; rfl
  · have e : x.dst ≠ l.router := by simpa using e
    rw [hear, if_neg (not_not_intro hs), if_neg (not_not_intro hx), if_pos (.inr e)]; rfl
  have e1 : x.kind ≠ 3 := by simpa using e1
  have e2 : x.dst = l.router := by simpa using e2
  have hlen := hs.2.2.1
  have hear1_ : hear l x = if ¬ hitH l.heard x.src ∧ l.heard.length = 12 then ((lsn0, sig0), 3)
      else ((⟨l.router, l.epoch, (base l.heard x.src).set (posH l.heard x.src) (hearH l.heard x)⟩, ⟨3, l.router, x.src, (hearH l.heard x).epoch, (hearH l.heard x).ver, 0, l.epoch, 0, 0, []⟩), 0) := by
    rw [hear, if_neg (not_not_intro hs), if_neg (not_not_intro hx), if_neg (by rintro (h | h); exact e1 h; exact h e2)]
  refine ⟨hs.2.2.2.2, by omega, ⟨fun a => ⟨fun b => ?_, fun b => by simp [a, b]⟩, fun a => by simp [a]⟩, ?_⟩
  · have a : ¬ hitH l.heard x.src := by simpa using a
    have b : l.heard.length = 12 := by simp at b; omega
    rw [hear1_, if_pos ⟨a, b⟩]; rfl
  rintro _ hc
  have hc : ¬ (¬ hitH l.heard x.src ∧ l.heard.length = 12) := by
    rintro ⟨a, b⟩
    simp [a, b] at hc
  refine ⟨⟨0, by simp, by omega⟩, ?_⟩
  rintro _ ⟨k, rfl, hk⟩
  refine ⟨fun h1 => ⟨by omega, by omega, fun y hy => ?_⟩, fun h1 => ?_⟩
  · simp only [Int.toNat_natCast] at hy ⊢
    have hi := (hs.2.2.2.1 y (mem_of_get hy)).2.2.2.2
    refine ⟨okItms_of hi, by simp; omega, ?_⟩
    rw [W_succ (n := l.heard.length) (by omega) (by omega), without_zero hi]
    exact ⟨⟨k + 1, by rw [take_succ hy], by omega⟩, by simp; omega⟩
  rw [List.take_of_length_le (by omega)]
  have hb : (bif !decide (hitH l.heard x.src) then insAt l.heard (posH l.heard x.src) (⟨x.src, 0, 0, []⟩ : Hrd) else l.heard) = base l.heard x.src := by
    by_cases a : hitH l.heard x.src <;> simp [base, a]
  have hpl : posH l.heard x.src ≤ l.heard.length := List.findIdx_le_length
  simp only [hb, Int.toNat_natCast]
  refine ⟨⟨fun a => ⟨hpl, by omega, ?_⟩, fun a => ?_⟩, ?_⟩
  · have a : ¬ hitH l.heard x.src := by simpa using a
    rw [base, if_neg a]
  · have a : hitH l.heard x.src := by simpa using a
    rw [base, if_pos a]
  rintro _ rfl
  have hp : posH l.heard x.src < (base l.heard x.src).length := by
    by_cases a : hitH l.heard x.src
    · rw [base, if_pos a]; exact a.1
    · rw [base, if_neg a]; simp [insAt]; omega
  have fin := hear1_
  rw [if_neg hc] at fin
  clear hear1_
  have hbi : ∀ h ∈ base l.heard x.src, okItms h.items := by
    intro h hh
    by_cases a : hitH l.heard x.src
    · rw [base, if_pos a] at hh
      exact okItms_of (hs.2.2.2.1 h hh).2.2.2.2
    · rw [base, if_neg a, insAt] at hh
      simp only [List.append_assoc, List.mem_append, List.mem_singleton] at hh
      rcases hh with hh | rfl | hh
      · exact okItms_of (hs.2.2.2.1 h (List.mem_of_mem_take hh)).2.2.2.2
      · exact ⟨by simp, by simp⟩
      · exact okItms_of (hs.2.2.2.1 h (List.mem_of_mem_drop hh)).2.2.2.2
  rw [hearH] at fin
  generalize base l.heard x.src = B at *
  generalize posH l.heard x.src = p at *
  obtain ⟨g, hg⟩ : ∃ g, B[p]? = some g := ⟨B[p], List.getElem?_eq_getElem hp⟩
  have hgi := hbi g (mem_of_get hg)
  rw [getD_some hg] at fin
  simp only [hg, Option.some.injEq, forall_eq', exists_eq_left', and_true, exists_const, forall_const]
  refine ⟨by simp; omega, ⟨hp, fun a => ⟨hp, ?_⟩, fun a => ?_⟩, ?_⟩
  · exact .inl ⟨a, g, rfl⟩
  · exact .inr a
  intro t3 h3
  have h3 : t3 = B.set p (hear0 g x) := by
    rcases h3 with ⟨a, _, _, rfl⟩ | ⟨a, rfl⟩
    · rw [hear0, if_pos a]
    · rw [hear0, if_neg a, set_same hg]
  subst h3
  have h0i : okItms (hear0 g x).items := by
    rw [hear0]; split
    · exact ⟨by simp, by simp⟩
    · exact hgi
  clear h1 hb hbi hk
  generalize hear0 g x = h0 at *
  have hgS : ∀ y, (B.set p y)[p]? = some y := fun y => List.getElem?_set_self hp
  simp only [hgS, List.set_set, List.length_set, Option.some.injEq, forall_eq', exists_eq_left', and_true, exists_const, forall_const]
  have hln : ∀ g, (Go.Proofs.YtglfecmdoekabaaGreatDoor.without g h0.items).length ≤ 900000 := fun g => Nat.le_trans (List.length_filter_le _ _) h0i.1
  have hsl : x.kind = 2 → x.srcs.length ≤ 1000000 := fun K => by
    have := (sig_told hx e1).2.2 K
    have := srcs_len this.2.2
    omega
  have hd : hear1 h0 x = if (x.kind == 2) = true ∧ (x.epoch == h0.epoch) = true ∧ x.prev ≤ h0.ver ∧ h0.ver < x.ver then ⟨h0.router, h0.epoch, x.ver, put1 h0.items (sigItm x)⟩ else h0 := by
    rw [hear1]; simp only [beq_iff_eq]
  rw [hd] at fin
  rw [fin]
  have hw := hln x.grp
  have hsl : (x.kind == 2) = true → x.srcs.length ≤ 1000000 := fun K => hsl (by simpa using K)
  clear fin hd hg hgi h3 hc hs
  cases kb : x.kind == 2
  · simp [hp]
  cases eb : x.epoch == h0.epoch
  · simp [hp]
  by_cases P : x.prev ≤ h0.ver
  · by_cases V : h0.ver < x.ver
    · simp [hp, P, V, h0i, hsl kb, put1, sigItm]
      omega
    · simp [hp, P, V]
  · simp [hp, P]
def hear_c (l : Lsn) (x : Sig) : PC Tryz.prog := ⟨28, [(.a [.k, .k, (.s 4)]), (.a [.k, .k, .k, .k, .k, .k, .k, .k, .k, (.s 1)])], [.agg [.int l.router, .int l.epoch, .sl 4 (l.heard.map Hrd.v) false], .agg [.int x.kind, .int x.src, .int x.dst, .int x.epoch, .int x.ver, .int x.prev, .int x.pep, .int x.grp, .int x.mode, .sl 1 (x.srcs.map AV.int) false]], hearF_e ((hear l x).1.1, (hear l x).1.2, (hear l x).2), PSpec.of_ok fun ok => (hearF_p l x ok).elim fun I1 h => h.elim fun m1 h => hearF_ok l x I1 m1 _ h, fnB_ok (by kernel_rfl)⟩
end Go.Proofs.YtglfecmdoekabaaGreatDoor
