/- slices.overlaps: two slices in different blocks do not overlap. -/
import Derived.Test.YtaboolnmkfenlaaAm27
import Derived.Lib.Overlaps
namespace Go.Am
set_option linter.unusedVariables false
set_option linter.unusedSimpArgs false

theorem frozen_own {w : World} {b o : Nat} {C : Array Value} {ty : TypeId} (h : w.heap[b]? = some (.cells C ty (0, 0))) : w.frozen? ⟨b, o, none⟩ = false := by
  simp [World.frozen?, h]
theorem ext_overlaps {P : Program} {n : Nat} {fid : FuncId} {fn : Func} {tS tR e : TypeId} {k : Nat} (hf : P.funcs[fid]? = some fn) (hname : (fn.name == "runtime.NumGoroutine") = false) (hb : fn.body.isNone = true) (hn : Extern.findNext fn = none)
    (he : Extern.find fn = some (Extern.SlicesOverlaps.overlaps #[tS, tS] #[tR])) (ht : P.underlying tS = some (.slice e)) (hs : sizeOf? P e = some k) (hk : 0 < k)
    {hp : Hp} {b1 b2 lo m len cap : Nat} {es1 es : List AV} (h1 : hp b1 = some (.vec k es1)) (h2 : hp b2 = some (.row k es len cap)) (hne : b1 ≠ b2) (hes : es1 ≠ []) (hcap : 0 < cap) :
    ExtOk P n fid [.vec b1, .vsub b2 lo m] hp [b1, b2] (.bool false) := by
  intro c A μ fr tm' hp' a w cargs H hfoot hargs
  have g1 := (hfoot b1 (by simp)).trans h1
  have g2 := (hfoot b2 (by simp)).trans h2
  obtain ⟨v1, vs, rfl, ⟨hd1, e1, rfl⟩, v2, vs2, rfl, ⟨hd2, cap2, o, e2, e3, e4, e5, e6, rfl⟩, rfl⟩ := hargs
  obtain ⟨hd1', f1, f2, f3⟩ := H.vec g1
  rw [e1] at f1; cases f1
  obtain ⟨hd2', q1, q2, q3, q4, q5, q6, q7, q8, C2, ty2, us2, k1, _, _, _, k5, _⟩ := H.row g2
  rw [e2] at q1; cases q1
  rcases f3 with ⟨rfl, _⟩ | ⟨p1, p2, p3, p4, C1, ty1, us1, r1, _⟩
  · exact absurd rfl hes
  have hbl : hd1.blk ≠ hd2.blk := fun h => hne (H.inj b1 b2 _ _ hd1 hd2 g1 g2 e1 e2 p1 e3 h)
  have hv : hd1.val = .slice (some ⟨hd1.blk, 0, none⟩) hd1.len hd1.cap := by rw [Hd.val, p1]
  have hrun := Lib.run_overlaps_apart (P := P) w tS tR e ht k (fun w => run_sizeOf_of hs) ⟨hd1.blk, 0, none⟩ ⟨hd2.blk, o, none⟩ hd1.len hd1.cap m cap2 hbl ty1 ty2 C1.size C2.size
    (by simp [World.shape?, r1]) (by simp [World.shape?, k1]) (by rw [k5]; have := Nat.mul_pos hcap hk; omega) (frozen_own r1) (frozen_own r1)
  refine ⟨.bool false, ?_, rv_bool _⟩
  rw [run_callFunc_extern hf hname hb hn he, hv, hrun]
  rfl
end Go.Am
