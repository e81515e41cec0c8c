/- The resolved operations are sound: all of them. -/
import Derived.Test.YtbhlolmglieehaaEngG
set_option linter.unusedSimpArgs false
set_option linter.unusedVariables false
namespace Go.Proofs.Ytbhlolmglieehaa
namespace Eng

section
variable {P : Program} {w : World} {ρ : Operand → Value} {T : TypeId} {Q : Next → World → Prop}

theorem does_alloc {t : TypeId} {i : TypeInfo} {z : Value} (hi : P.info? t = some i) (hz : i.zero = some z) (h : EOp.wp P ρ w Q (.alloc (vcells z) t)) : Does P ρ (.alloc t) T w Q := by
  refine does_v (s := Instr.alloc t true (.tuple #[])) ?_ (fun _ _ _ _ => rfl) h
  unfold Instr.alloc
  rw [run_bind_ok (run_zero hi hz)]
  show Sem.run P (do pure (Value.pointer (some (← newVar t z))) : Sem Value) w = _
  rw [run_bind_ok (run_newVar t z)]; rfl

theorem does_box {t : TypeId} {x : Operand} (h : EOp.wp P ρ w Q (.box x t)) : Does P ρ (.box t x) T w Q := by
  refine does_v (s := Instr.box t (ρ x)) ?_ (fun _ _ _ _ => rfl) h
  unfold Instr.box
  rw [run_bind_ok (run_newVar t (ρ x))]; rfl

theorem run_sure (a : Addr) : (Instr.sureAddr (.pointer (some a))).run P w = .ok a w := rfl

theorem does_ldn {t : TypeId} {x : Operand} {i : TypeInfo} (ha : aggOf P t = some true) (hi : P.info? t = some i) (h : EOp.wp P ρ w Q (.ldn x i.size)) : Does P ρ (.load t x) T w Q := by
  obtain ⟨b, o, L, T', fz, hx, hb, hl, q⟩ := h
  refine does_v (s := Instr.loadAt t (ρ x)) ?_ (fun _ _ _ _ => rfl) q
  unfold Instr.loadAt loadVar
  rw [hx, run_bind_ok (run_sure _), run_bind_ok (run_isAgg ha)]
  simp only [if_true]
  rw [run_bind_ok (run_sizeOf hi), run_bind_ok (run_loadCells hb hl)]; rfl

theorem does_ld1 {t : TypeId} {x : Operand} (ha : aggOf P t = some false) (h : EOp.wp P ρ w Q (.ld1 x)) : Does P ρ (.load t x) T w Q := by
  obtain ⟨b, o, L, T', fz, v, hx, hb, hl, q⟩ := h
  refine does_v (s := Instr.loadAt t (ρ x)) ?_ (fun _ _ _ _ => rfl) q
  unfold Instr.loadAt loadVar
  rw [hx, run_bind_ok (run_sure _), run_bind_ok (run_isAgg ha)]
  exact run_load hb hl

theorem does_st {t : TypeId} {x y : Operand} {i : TypeInfo} (hi : P.info? t = some i) (h : EOp.wp P ρ w Q (.st x y i.size)) : Does P ρ (.store t x y) T w Q := by
  obtain ⟨b, o, L, T', fz, vs, hx, hb, hy, hn, hne, h1, hl, hf, q⟩ := h
  refine does_u (s := Instr.storeAt t (ρ x) (ρ y)) ?_ (fun _ _ _ _ => rfl) q
  unfold Instr.storeAt storeVar
  rw [hx, run_bind_ok (run_sure _), run_bind_ok (run_sizeOf hi)]
  have hs : (ρ y).cells = vs.toArray := by rw [vcells_eq, hy]
  rw [hs]
  have e : ¬ (vs.toArray.size ≠ i.size) := by simp [hn]
  simp only [if_neg e]
  show Sem.run P (storeCells ⟨b, o, none⟩ vs) w = _
  have := run_cells_store (P := P) (a := ⟨b, o, none⟩) rfl hb h1 (by rw [hn]; exact hl) (by rw [hn]; exact hf)
  rw [hn] at this
  exact this

theorem does_off {s : TypeId} {x : Operand} {f : Nat} {fs : Array Field} {fd : Field} {i : TypeInfo} (hs : P.underlying s = some (.struct fs)) (hf : fs[f]? = some fd) (hi : P.info? fd.type = some i) (h0 : ¬ i.size = 0)
    (h : EOp.wp P ρ w Q (.off x fd.offset)) : Does P ρ (.fieldAddr s x f) T w Q := by
  obtain ⟨a, hx, q⟩ := h
  refine does_v (s := Instr.fieldAt s (ρ x) f) ?_ (fun _ _ _ _ => rfl) q
  unfold Instr.fieldAt
  rw [run_bind_ok (run_underlying hs)]
  simp only [hf, hx]
  rw [run_bind_ok (run_sure a)]
  unfold fieldPlace
  have : ((do if (← sizeOf fd.type) = 0 then partAt a fd.offset fd.byteOffset else pure (a.add fd.offset)) : Sem Addr).run P w = .ok (a.add fd.offset) w := by
    rw [run_bind_ok (run_sizeOf hi), if_neg h0]; rfl
  rw [run_bind_ok this]; rfl

theorem does_bin {op : BinOp} {t t' : TypeId} {x y : Operand} (h : EOp.wp P ρ w Q (.bin op x y)) : Does P ρ (.binOp op t x y t') T w Q := by
  obtain ⟨v, hv, q⟩ := h
  refine does_v (s := do eqGuard op t x y (ρ x) (ρ y); binOp op t (ρ x) (ρ y)) ?_ (fun _ _ _ _ => rfl) q
  rw [run_bind_ok (eqGuard_bin hv)]
  exact run_bin hv

theorem does_eqv {neg : Bool} {t t' : TypeId} {d : TypeDesc} {x y : Operand} (hd : P.underlying t = some d) (h : EOp.wp P ρ w Q (.eqv d neg x y)) :
    Does P ρ (.binOp (if neg then .neq else .eql) t x y t') T w Q := by
  obtain ⟨r, hr, q⟩ := h
  refine does_v (s := do eqGuard (if neg then .neq else .eql) t x y (ρ x) (ρ y); binOp (if neg then .neq else .eql) t (ρ x) (ρ y)) ?_ (fun _ _ _ _ => rfl) q
  rw [run_bind_ok (eqGuard_eqv hr)]
  have he := run_eqv (w := w) hd hr
  have h2 : ∀ neg : Bool, (binOp (if neg then .neq else .eql) t (ρ x) (ρ y)).run P w = .ok (.bool (if neg then !r else r)) w := by
    intro neg
    generalize hX : ρ x = X at *
    generalize hY : ρ y = Y at *
    unfold eqVal at hr
    cases neg with
    | false =>
      have : (do pure (Value.bool (← Op.equal t X Y)) : Sem Value).run P w = .ok (.bool r) w := by rw [run_bind_ok he]; rfl
      split at hr <;> first | (cases hr; done) | exact this
    | true =>
      have : (do pure (Value.bool (!(← Op.equal t X Y))) : Sem Value).run P w = .ok (.bool !r) w := by rw [run_bind_ok he]; rfl
      split at hr <;> first | (cases hr; done) | exact this
  exact h2 neg

theorem does_un {op : UnOp} {t : TypeId} {x : Operand} (h : EOp.wp P ρ w Q (.un op x)) : Does P ρ (.unOp op t x) T w Q := by
  obtain ⟨v, hv, q⟩ := h
  exact does_v (s := Op.unary op (ρ x)) (run_un hv) (fun _ _ _ _ => rfl) q

theorem does_cvI {s t : TypeId} {j k : IntKind} {x : Operand} (hs : P.underlying s = some (.int j)) (ht : P.underlying t = some (.int k)) (h : EOp.wp P ρ w Q (.cvI k x)) :
    Does P ρ (.convert s t x) T w Q := by
  obtain ⟨k', n, hx, q⟩ := h
  refine does_v (s := convert s t (ρ x)) ?_ (fun _ _ _ _ => rfl) q
  unfold convert
  rw [run_bind_ok (run_underlying hs), run_bind_ok (run_underlying ht), hx]; rfl

theorem does_cvSS {s t : TypeId} {x : Operand} (hs : P.underlying s = some .string) (ht : P.underlying t = some .string) (h : EOp.wp P ρ w Q (.cvSS x)) :
    Does P ρ (.convert s t x) T w Q := by
  obtain ⟨n, hx, q⟩ := h
  refine does_v (s := convert s t (ρ x)) ?_ (fun _ _ _ _ => rfl) q
  unfold convert
  rw [run_bind_ok (run_underlying hs), run_bind_ok (run_underlying ht), hx]; rfl

theorem shape_of {b : Nat} {L : List Value} {T' : TypeId} {fz : Nat × Nat} (hb : w.heap[b]? = some (.cells L.toArray T' fz)) : w.shape? b = some (T', L.length) := by
  simp [World.shape?, hb]

theorem freeze_eq {b n : Nat} {L : List Value} {T' : TypeId} (hb : w.heap[b]? = some (.cells L.toArray T' (0, 0))) :
    w.freeze ⟨b, n, none⟩ 1 = setBlk w b (.cells L.toArray T' (n, n + 1)) := by
  have hlt : b < w.heap.size := by
    rcases Nat.lt_or_ge b w.heap.size with h1 | h1
    · exact h1
    · simp [Array.getElem?_eq_none h1] at hb
  unfold World.freeze setBlk
  simp only [Nat.one_ne_zero, if_false]
  congr 1
  apply Array.ext_getElem?
  intro i
  rw [Array.getElem?_modify, Array.getElem?_setIfInBounds]
  by_cases e : b = i
  · subst e
    rw [Array.getElem?_eq_getElem hlt] at hb
    simp only [Option.some.injEq] at hb
    simp [hb, hlt]
  · simp [e]

theorem set_new (w : World) (o o' : Obj) : setBlk (newBlk w o) w.heap.size o' = newBlk w o' := by
  unfold setBlk newBlk
  congr 1
  apply Array.ext_getElem?
  intro i
  simp only [Array.getElem?_setIfInBounds, Array.getElem?_push, Array.size_push]
  by_cases e : w.heap.size = i
  · subst e; simp
  · rw [if_neg e, if_neg (by omega), if_neg (by omega)]

theorem run_mark {b : Nat} {o : Nat} {L : List Value} {T' : TypeId} (hb : w.heap[b]? = some (.cells L.toArray T' (0, 0))) :
    (markStringish ⟨b, o, none⟩).run P w = .ok () (setBlk w b (.cells L.toArray T' (L.length, L.length + 1))) := by
  unfold markStringish
  rw [run_bind]
  simp only [shape, Sem.run, shape_of hb, freeze]
  show Result.ok () (w.freeze _ 1) = _
  rw [freeze_eq hb]

theorem does_cvLit {s t e : TypeId} {f : TypeId} {x : Operand} (hs : P.underlying s = some (.slice f)) (ht : P.underlying t = some (.slice e)) (he : P.underlying e = some (.int .u8)) (hst : s = t)
    (h : EOp.wp P ρ w Q (.cvLit x)) : Does P ρ (.convert s t x) T w Q := by
  obtain ⟨b, n, c, L, T', fz, hx, hb, hz, q⟩ := h
  subst hz
  refine does_v (s := convert s t (ρ x)) ?_ (fun _ _ _ _ => rfl) q
  unfold convert
  rw [run_bind_ok (run_underlying hs), run_bind_ok (run_underlying ht), hx]
  simp only
  rw [run_bind_ok (run_underlying he)]
  have : (s == t) = true := by simp [hst]
  simp only [this]
  show Sem.run P (do markStringish ⟨b, 0, none⟩; pure _) w = _
  rw [run_bind_ok (run_mark hb)]; rfl

theorem does_cvSB {s t e : TypeId} {x : Operand} (hs : P.underlying s = some .string) (ht : P.underlying t = some (.slice e)) (he : P.underlying e = some (.int .u8))
    (h : EOp.wp P ρ w Q (.cvSB e x)) : Does P ρ (.convert s t x) T w Q := by
  obtain ⟨str, hx, q⟩ := h
  let cq := Question.appendCap str.size 0 e
  let c := cq.cut (w.tape w.drawn cq)
  have hc : str.size ≤ c := Nat.le_add_right _ _
  refine does_v (s := convert s t (ρ x)) ?_ (fun _ _ _ _ => rfl) (q c hc)
  unfold convert
  rw [run_bind_ok (run_underlying hs), run_bind_ok (run_underlying ht), hx]
  simp only
  rw [run_bind_ok (run_underlying he)]
  simp only [Conv.stringToBytes]
  rw [run_bind_ok (run_choose cq rfl), run_bind_ok (run_newRow _ _)]
  let L : List Value := (str.data.toList.map fun b => Value.int .u8 b.toNat) ++ List.replicate (c - str.size) (.int .u8 0)
  have hL : ((str.data.map fun b => Value.int .u8 (b.toNat : Int)) ++ Array.replicate (c - str.size) (Value.int .u8 0)) = L.toArray := by
    apply Array.ext'; simp [L]
  have hlen : L.length = c := by
    have : str.data.toList.length = str.size := by simp
    simp only [L, List.length_append, List.length_map, List.length_replicate, this]; omega
  show Sem.run P (do markStringish _; pure _) _ = _
  have hnew : (newBlk { w with drawn := w.drawn + 1 } (.cells L.toArray e)).heap[w.heap.size]? = some (.cells L.toArray e (0, 0)) := by
    rw [newBlk_get]; simp
  show Sem.run P (do markStringish ⟨w.heap.size, 0, none⟩; pure _) (newBlk { w with drawn := w.drawn + 1 } (.cells _ e)) = _
  rw [hL, run_bind_ok (run_mark hnew)]
  rw [hlen]
  simp only [run_pure']
  congr 1
  exact set_new { w with drawn := w.drawn + 1 } _ _

theorem does_cvBS {s t e : TypeId} {x : Operand} (hs : P.underlying s = some (.slice e)) (ht : P.underlying t = some .string) (he : P.underlying e = some (.int .u8))
    (h : EOp.wp P ρ w Q (.cvBS x)) : Does P ρ (.convert s t x) T w Q := by
  obtain ⟨a, c, bs, hx, hsh, q⟩ := h
  refine does_v (s := convert s t (ρ x)) ?_ (fun _ _ _ _ => rfl) q
  unfold convert
  rw [run_bind_ok (run_underlying hs), run_bind_ok (run_underlying ht)]
  rw [hx] at hsh ⊢
  simp only
  rw [run_bind_ok (run_underlying he)]
  cases a with
  | none =>
    have : bs = [] := by simpa [shows] using hsh
    subst this; rfl
  | some a =>
    have hload : (loadCells a bs.length).run P w = .ok (bs.map fun b => Value.int .u8 (b.toNat : Int)).toArray w := by
      rcases hsh with ⟨h0, h1⟩ | ⟨hsp, L, T', fz, hb, hl, hxs⟩
      · have : bs = [] := by simpa using h1
        subst this; rfl
      · have ha := find_spot a hsp
        simp only [Nat.mul_one] at hl hxs
        rw [ha, run_loadCells hb hl, ← hxs]
    simp only [Conv.bytesToString]
    rw [run_bind_ok hload]
    have key : ∀ (bs : List UInt8) (acc : ByteArray), Sem.run P (do
        let mut s := acc
        for c in (bs.map fun b => Value.int .u8 (b.toNat : Int)).toArray do
          let .int .u8 n := c | stuck "bytesToString: byte expected"
          s := s.push (UInt8.ofNat n.toNat)
        pure (Value.string s)) w = .ok (.string ⟨acc.data ++ bs.toArray⟩) w := by
      intro bs
      induction bs with
      | nil => intro acc; simp
      | cons b bs ih =>
        intro acc
        have := ih (acc.push b)
        simp only [List.map_cons, List.forIn_toArray, List.forIn_cons, run_bind, run_pure', Int.toNat_natCast, UInt8.ofNat_toNat] at this ⊢
        rw [this]; simp [ByteArray.push]
    have := key bs ByteArray.empty
    simpa using this
end
end Eng
end Go.Proofs.Ytbhlolmglieehaa
