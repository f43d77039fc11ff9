/- What one operation of the model does is what the compact operation says: addresses, parts, slices. -/
import Derived.Test.YtaboolnmkfenlaaAm5
namespace Go.Am
set_option linter.unusedVariables false
set_option linter.unusedSimpArgs false
section
variable {P : Program} {c : Ctx} {A : Nat → Prop} {μ : Mu} {fr : Nat → Prop} {tm : Nat → AV} {hp : Hp} {n : Nat} {a : Act} {w : World}

theorem does_faddr {S : TypeId} {fs : Array Field} {i sz f : Nat} {fd : Field} (hu : P.underlying S = some (.struct fs)) (hi : fs[i]? = some fd) (hs : sizeOf? P fd.type = some sz) (h0 : 0 < sz)
    {X : AO} {x : Value} (hx : RV w A (evO tm X) μ x) (hc : (evA (.faddr fd.offset X) f (evO tm) hp).c) :
    Val P w A μ (Instr.fieldAt S x i) (evA (.faddr fd.offset X) f (evO tm) hp).v := by
  have hz : sz ≠ 0 := by omega
  have place : ∀ b o, (fieldPlace ⟨b, o, none⟩ fd).run P w = .ok ⟨b, o + fd.offset, none⟩ w := by
    intro b o
    simp [fieldPlace, run_sizeOf_of hs, hz, Addr.add_lit]
  have run : ∀ b o, (Instr.fieldAt S (.pointer (some ⟨b, o, none⟩)) i).run P w = .ok (.pointer (some ⟨b, o + fd.offset, none⟩)) w := by
    intro b o
    simp [Instr.fieldAt, run_underlying hu, hi, run_sureAddr, place]
  simp only [evA] at hc ⊢
  generalize evO tm X = Y at *
  cases Y <;> simp only [Out.bad] at hc
  case ref b off =>
    obtain ⟨hd, h1, h2, rfl⟩ := hx
    exact ⟨_, run _ _, hd, h1, h2, rfl⟩
  case eref b j off =>
    obtain ⟨hd, h1, h2, rfl⟩ := hx
    exact ⟨_, run _ _, hd, h1, h2, congrArg (fun o => Value.pointer (some ⟨hd.blk, o, none⟩)) (Nat.add_assoc _ _ _)⟩
  case rptr y off =>
    obtain ⟨blk, o, v, rfl, h2, h3, h4, h5⟩ := hx
    exact ⟨_, run _ _, blk, o, v, congrArg (fun o => Value.pointer (some ⟨blk, o, none⟩)) (Nat.add_assoc _ _ _), h2, h3, h4, h5⟩

theorem run_part {T : TypeId} {d : TypeDesc} {size off : Nat} (hu : P.underlying T = some d) (hs : sizeOf? P T = some size) {y : AV} {vs : Array Value}
    (hy : RV w A y μ (.agg vs)) (hok : partOk y off size (aggOf P T)) :
    Val P w A μ (part T vs off) (if aggOf P T then .agg ((y.cells.drop off).take size) else y.cells.getD off .unk) := by
  have hc := RV.cells hok.1 hy
  have hl := hc.1.length
  cases hg : aggOf P T with
  | true =>
    rw [hg] at hok
    refine ⟨_, ?_, rv_part hy hok rfl⟩
    have : vs.extract off (off + size) = ((vs.toList.drop off).take size).toArray := by
      apply Array.ext'
      simp [Array.toList_extract, List.extract_eq_take_drop]
    simp [part, run_isAgg_of hu, hg, run_sizeOf_of hs, this, Value.cells]
  | false =>
    rw [hg] at hok
    have hlt : off < vs.size := by have := hok.2.1; have := hok.2.2 rfl; simp [Value.cells] at hl; omega
    have hlt' : off < y.cells.length := by have := hok.2.1; have := hok.2.2 rfl; omega
    refine ⟨vs[off], by simp [part, run_isAgg_of hu, hg, hlt], ?_⟩
    simp only [Bool.false_eq_true, ↓reduceIte]
    refine hc.1.get2 (i := off) ?_ (by simp [Value.cells, hlt])
    rw [List.getElem?_eq_getElem hlt']; simp [List.getD, List.getElem?_eq_getElem hlt']

theorem isAgg_agg {y : AV} {v : Value} (hy : RV w A y μ v) (h : y.isAgg = true) : ∃ vs, v = .agg vs := ⟨_, agg_eta hy h⟩

theorem does_field {S : TypeId} {fs : Array Field} {i sz f : Nat} {fd : Field} {d : TypeDesc} (hu : P.underlying S = some (.struct fs)) (hi : fs[i]? = some fd) (hd : P.underlying fd.type = some d) (hs : sizeOf? P fd.type = some sz)
    {X : AO} {x : Value} (hx : RV w A (evO tm X) μ x) (hc : (evA (.field (aggOf P fd.type) fd.offset sz X) f (evO tm) hp).c) :
    Val P w A μ (Instr.field S x i) (evA (.field (aggOf P fd.type) fd.offset sz X) f (evO tm) hp).v := by
  simp only [evA] at hc ⊢
  obtain ⟨h1, h2⟩ := hc
  obtain ⟨vs, rfl⟩ := isAgg_agg hx h1
  obtain ⟨cv, h3, h4⟩ := run_part hd hs hx h2
  exact ⟨cv, by simp [Instr.field, run_underlying hu, hi, asAgg, h3], h4⟩

theorem run_asIntOf (k : IntKind) (m : Int) : (asIntOf (.int k m)).run P w = .ok (k, m) w := rfl

theorem does_iaddr {T e : TypeId} {k f : Nat} (hu : P.underlying T = some (.slice e)) (hs : sizeOf? P e = some k) (H : RelE c A μ fr tm hp n a w)
    {X I : AO} {x i : Value} (hx : RV w A (evO tm X) μ x) (hi : RV w A (evO tm I) μ i) (hc : (evA (.iaddr k X I) f (evO tm) hp).c) :
    Val P w A μ (Instr.indexAt T x i) (evA (.iaddr k X I) f (evO tm) hp).v := by
  have run : ∀ (b o ln cap : Nat) (kk : IntKind) (m : Int), 0 ≤ m → m < ln → (Instr.indexAt T (.slice (some ⟨b, o, none⟩) ln cap) (.int kk m)).run P w = .ok (.pointer (some ⟨b, o + m.toNat * k, none⟩)) w := by
    intro b o ln cap kk m h1 h2
    simp [Instr.indexAt, run_asIntOf, run_underlying hu, h1, h2, run_sizeOf_of hs, Addr.add_lit]
  simp only [evA] at hc ⊢
  generalize evO tm X = Y at *
  generalize evO tm I = J at *
  cases J <;> simp only [Out.bad] at hc
  rename_i iv
  obtain ⟨rfl, hi⟩ := hi
  cases i <;> simp only [] at hc
  rename_i kk m
  cases Y <;> simp only [] at hc
  case sl k' es full =>
    obtain ⟨rfl, h1, h2⟩ := hc
    have hn : m.toNat < es.length := by omega
    rcases hx with ⟨rfl, a0, rfl⟩ | ⟨blk, off, cap, vs, rfl, g1, g2, g3, g4, g5, g6, g7, g8⟩
    · simp at h2; omega
    · have hxe : es[m.toNat]? = some (es.getD m.toNat .unk) := by simp [List.getD, List.getElem?_eq_getElem hn]
      obtain ⟨v, e1, e2⟩ := g5.get hxe
      have hv := g6 v (List.mem_of_getElem? e1)
      refine ⟨_, run blk off es.length cap kk m h1 h2, blk, off + m.toNat * k', v, rfl, g1, e2, hv.2, ?_⟩
      exact flat_reads (fun v hv => (g6 v hv).1) g7 e1
  case vec b =>
    split at hc
    · rename_i k' es hb
      simp only [hb]
      obtain ⟨rfl, h1, h2⟩ := hc
      obtain ⟨hd, e1, e2⟩ := hx
      obtain ⟨hd', f1, f2, f3⟩ := H.vec hb
      rw [e1] at f1; cases f1
      rcases f3 with ⟨rfl, _⟩ | ⟨g1, g2, _⟩
      · simp at h2; omega
      · refine ⟨_, ?_, hd, e1, g1, rfl⟩
        rw [e2, Hd.val, g1, g2]
        simp only []
        rw [run hd.blk 0 es.length hd.cap kk m h1 h2, f2]; simp
    · exact hc.elim
  case vsub b lo ln =>
    split at hc
    · rename_i k' es hb
      simp only [hb]
      obtain ⟨rfl, h1, h2⟩ := hc
      obtain ⟨hd, cap, o, e1, e2, e3, e4, _, rfl⟩ := hx
      obtain ⟨hd', f1, f2, f3⟩ := H.vec hb
      rw [e1] at f1; cases f1
      refine ⟨_, run hd.blk o ln cap kk m h1 h2, hd, e1, e2, ?_⟩
      rw [e4 (by omega), f2, Nat.add_mul]; simp
    · exact hc.elim
  case asub b off ln k' =>
    obtain ⟨rfl, h1, h2⟩ := hc
    obtain ⟨hd, cap, o, e1, e2, e3, e4, rfl⟩ := hx
    refine ⟨_, run hd.blk o ln cap kk m h1 h2, hd, e1, e2, ?_⟩
    rw [e4 (by omega)]

theorem does_iaddrA {T e : TypeId} {N k f : Nat} (hu : P.underlying T = some (.array N e)) (hs : sizeOf? P e = some k)
    {X I : AO} {x i : Value} (hx : RV w A (evO tm X) μ x) (hi : RV w A (evO tm I) μ i) (hc : (evA (.iaddrA N k X I) f (evO tm) hp).c) :
    Val P w A μ (Instr.indexAt T x i) (evA (.iaddrA N k X I) f (evO tm) hp).v := by
  have run : ∀ b o kk (m : Int), 0 ≤ m → m < N → (Instr.indexAt T (.pointer (some ⟨b, o, none⟩)) (.int kk m)).run P w = .ok (.pointer (some ⟨b, o + m.toNat * k, none⟩)) w := by
    intro b o kk m h1 h2
    simp [Instr.indexAt, run_asIntOf, run_underlying hu, h1, h2, run_sizeOf_of hs, Addr.add_lit, run_sureAddr]
  simp only [evA] at hc ⊢
  generalize evO tm X = Y at *
  generalize evO tm I = J at *
  cases J <;> simp only [Out.bad] at hc
  rename_i iv
  obtain ⟨rfl, hi⟩ := hi
  cases i <;> simp only [] at hc
  rename_i kk m
  cases Y <;> simp only [] at hc
  case ref b off =>
    obtain ⟨hd, h1, h2, rfl⟩ := hx
    exact ⟨_, run _ _ _ _ hc.1 hc.2, hd, h1, h2, rfl⟩
  case eref b j off =>
    obtain ⟨hd, h1, h2, rfl⟩ := hx
    exact ⟨_, run _ _ _ _ hc.1 hc.2, hd, h1, h2, congrArg (fun o => Value.pointer (some ⟨hd.blk, o, none⟩)) (Nat.add_assoc _ _ _)⟩
  case rptr y off =>
    obtain ⟨blk, o, v, rfl, h2, h3, h4, h5⟩ := hx
    exact ⟨_, run _ _ _ _ hc.1 hc.2, blk, o, v, congrArg (fun o => Value.pointer (some ⟨blk, o, none⟩)) (Nat.add_assoc _ _ _), h2, h3, h4, h5⟩

theorem does_indexA {T e : TypeId} {d : TypeDesc} {N k f : Nat} (hu : P.underlying T = some (.array N e)) (he : P.underlying e = some d) (hs : sizeOf? P e = some k)
    {X I : AO} {x i : Value} (hx : RV w A (evO tm X) μ x) (hi : RV w A (evO tm I) μ i) (hc : (evA (.indexA N k (aggOf P e) X I) f (evO tm) hp).c) :
    Val P w A μ (Instr.index T x i) (evA (.indexA N k (aggOf P e) X I) f (evO tm) hp).v := by
  simp only [evA] at hc ⊢
  generalize evO tm X = Y at *
  generalize evO tm I = J at *
  cases J <;> simp only [Out.bad] at hc
  rename_i iv
  obtain ⟨rfl, hi⟩ := hi
  cases i <;> simp only [] at hc
  rename_i kk m
  obtain ⟨h1, h2, h3, h4⟩ := hc
  obtain ⟨vs, rfl⟩ := isAgg_agg hx h1
  obtain ⟨cv, h5, h6⟩ := run_part he hs hx h4
  exact ⟨cv, by simp [Instr.index, run_asIntOf, run_underlying hu, h2, h3, run_sizeOf_of hs, h5], h6⟩

theorem does_indexS {T : TypeId} {f : Nat} (hu : P.underlying T = some .string)
    {X I : AO} {x i : Value} (hx : RV w A (evO tm X) μ x) (hi : RV w A (evO tm I) μ i) (hc : (evA (.indexS X I) f (evO tm) hp).c) :
    Val P w A μ (Instr.index T x i) (evA (.indexS X I) f (evO tm) hp).v := by
  simp only [evA] at hc ⊢
  split at hc
  case h_2 => exact hc.elim
  rename_i s kk m hX hI
  simp only [hX, hI] at hx hi ⊢
  obtain ⟨rfl, hx⟩ := hx
  obtain ⟨rfl, hi⟩ := hi
  obtain ⟨h1, h2⟩ := hc
  have hlt : m.toNat < s.data.size := by have : s.size = s.data.size := rfl; omega
  have hget : s[m.toNat]? = some s.data[m.toNat] := by
    have hlt' : m.toNat < s.size := hlt
    rw [getElem?_pos s m.toNat hlt']
    rfl
  refine ⟨.int .u8 s.data[m.toNat].toNat, by simp [Instr.index, run_asIntOf, run_underlying hu, h1, hget], ?_⟩
  have e : s.data.getD m.toNat 0 = s.data[m.toNat] := by unfold Array.getD; rw [dif_pos hlt]; rfl
  rw [e]
  exact rv_int (inK_byte _)

theorem does_ext {i f : Nat} {X : AO} {x : Value} (hx : RV w A (evO tm X) μ x) (hc : (evA (.ext i X) f (evO tm) hp).c) :
    Val P w A μ (Instr.extract x i) (evA (.ext i X) f (evO tm) hp).v := by
  simp only [evA] at hc ⊢
  generalize evO tm X = Y at *
  cases Y <;> simp only [Out.bad] at hc
  rename_i xs
  obtain ⟨vs, rfl, h⟩ := hx
  have hxe : xs[i]? = some (xs.getD i .unk) := by simp [List.getD, List.getElem?_eq_getElem hc]
  obtain ⟨v, e1, e2⟩ := h.get hxe
  have e1' : vs.toArray[i]? = some v := by simpa using e1
  exact ⟨v, by simp only [Instr.extract, e1']; rfl, e2⟩
end
end Go.Am
