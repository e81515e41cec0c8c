/- The operations on maps, ranges and interfaces are sound. -/
import Derived.Test.YtnfomoeicgdkkaaGreatDoorZ0
set_option linter.unusedSimpArgs false
set_option linter.unusedVariables false
namespace Go.Proofs.YtnfomoeicgdkkaaGreatDoor
namespace Eng

section
variable {P : Program} {w : World} {ρ : Operand → Value} {T : TypeId} {Q : Next → World → Prop}

theorem mapD_sound {t : TypeId} {d : TypeDesc} {z : Value} (h : mapD P t = some (d, z)) : ∃ k e i, P.underlying t = some (.map k e) ∧ P.underlying k = some d ∧ P.info? e = some i ∧ i.zero = some z ∧ keyD d = true := by
  unfold mapD at h
  split at h
  · rename_i k e ht
    split at h
    · rename_i d' i hk hi
      split at h
      · rename_i z' hz
        split at h
        · rename_i hd; cases h; exact ⟨k, e, i, ht, hk, hi, hz, hd⟩
        · cases h
      · cases h
    · cases h
  · cases h

theorem run_checkKey {k : TypeId} {d : TypeDesc} (hk : P.underlying k = some d) (hd : keyD d = true) (b : Bool) (v : Value) : (Instr.checkKey b 10000 k v).run P w = .ok () w := by
  show (Instr.checkKey b (9999 + 1) k v).run P w = _
  unfold Instr.checkKey
  rw [run_bind_ok (run_underlying hk)]
  cases d <;> first | (cases hd; done) | skip
  all_goals (cases v <;> rfl)

theorem run_findKey {k : TypeId} {d : TypeDesc} (hk : P.underlying k = some d) {v : Value} {es : List MapEntry} {r : Option (Nat × Value)} (h : Instr.findNow d v es 0 = some r) : (Instr.findKey k v es).run P w = .ok r w := by
  unfold Instr.findKey
  rw [run_bind_ok (run_underlying hk), h]; rfl

theorem run_getMap {r : Nat} {es : Array MapEntry} {c : Nat} (h : w.heap[r]? = some (.map es c)) : (getObj r).run P w = .ok (.map es c) w := by
  simp [getObj, Sem.run, h]

theorem run_setMap {r : Nat} {es es' : Array MapEntry} {c c' : Nat} (h : w.heap[r]? = some (.map es c)) : (setObj r (.map es' c')).run P w = .ok () (setBlk w r (.map es' c')) := by
  simp [setObj, Sem.run, h, setBlk]

theorem does_mkm {t : TypeId} {r : Option Operand} (hr : r = none ∨ ∃ n, r = some (.const (.int .i64 n)) ∧ ρ (.const (.int .i64 n)) = .int .i64 n) {k e : TypeId} (ht : P.underlying t = some (.map k e)) (h : EOp.wp P ρ w Q .mkm) : Does P ρ (.makeMap t r) T w Q := by
  refine does_v (s := Instr.makeMap t (r.map ρ)) ?_ (fun _ _ _ _ => rfl) h
  rcases hr with rfl | ⟨n, rfl, hn⟩
  · rfl
  · unfold Instr.makeMap
    simp only [Option.map_some, hn]
    rw [run_bind_ok (run_underlying ht)]; rfl

theorem does_lkp {t : TypeId} {d : TypeDesc} {z : Value} {x i : Operand} {ok : Bool} (hm : mapD P t = some (d, z)) (h : EOp.wp P ρ w Q (.lkp d z ok x i)) : Does P ρ (.lookup t x i ok) T w Q := by
  obtain ⟨k, e, j, ht, hk, hi, hz, hd⟩ := mapD_sound hm
  obtain ⟨es, r, hx, hf, q⟩ := h
  refine does_v (s := Instr.lookup t (ρ x) (ρ i) ok) ?_ (fun _ _ _ _ => rfl) q
  unfold Instr.lookup
  rw [run_bind_ok (run_underlying ht)]
  simp only
  have tail : ∀ (ea : Array MapEntry), ea.toList = es → ∀ (K : Sem Value), K = (do
      Instr.checkKey ea.isEmpty 10000 k (ρ i)
      match ← Instr.findKey k (ρ i) ea.toList with
      | some (_, v) => do
        let p ← (pure (v, true) : Sem (Value × Bool))
        pure (if ok = true then .tuple #[p.1, .bool p.2] else p.1)
      | none => do
        let z ← zeroValue e
        let p ← (pure (z, false) : Sem (Value × Bool))
        pure (if ok = true then .tuple #[p.1, .bool p.2] else p.1)) → K.run P w = .ok (foundV z ok r) w := by
    rintro ea rfl K rfl
    rw [run_bind_ok (run_checkKey hk hd _ _), run_bind_ok (run_findKey hk hf)]
    cases r with
    | none => simp only; rw [run_bind_ok (run_zero hi hz)]; cases ok <;> rfl
    | some p => cases ok <;> rfl
  generalize ρ x = X at hx ⊢
  unfold mapAt at hx
  split at hx
  · cases hx
    simp only
    rw [run_bind_ok (a := #[]) (w' := w) rfl]
    exact tail #[] rfl _ rfl
  · split at hx
    · rename_i es' c hh
      cases hx
      simp only
      rw [run_bind_ok (run_getMap hh)]
      simp only
      rw [run_bind_ok (a := ⟨es⟩) (w' := w) rfl]
      exact tail ⟨es⟩ rfl _ rfl
    · cases hx
  · cases hx

theorem ba_eq {a b : ByteArray} (h : (a == b) = true) : a = b := by
  cases a; cases b; exact congrArg ByteArray.mk (eq_of_beq (α := Array UInt8) h)
theorem ba_refl (a : ByteArray) : (a == a) = true := by
  cases a with
  | mk d => show (d == d) = true; simp

theorem sameNow_bits {d : TypeDesc} {a b : Value} (h : Instr.sameNow d a b = some true) : Instr.sameBits 10000 b a = true := by
  unfold Instr.sameNow at h
  split at h
  · split at h
    · rename_i hk; subst hk; simp at h; subst h; simp [Instr.sameBits]
    · cases h
  · simp only [Option.some.injEq] at h; have := ba_eq h; subst this; exact ba_refl _
  · simp only [Option.some.injEq] at h; have := eq_of_beq h; subst this; simp [Instr.sameBits]
  · cases h

theorem findNow_some {d : TypeDesc} {k : Value} : ∀ {es : List MapEntry} {n i : Nat} {v : Value}, Instr.findNow d k es n = some (some (i, v)) → n ≤ i ∧ ∃ e, es[i - n]? = some e ∧ e.val = v ∧ Instr.sameNow d k e.key = some true := by
  intro es
  induction es with
  | nil => intro n i v h; cases h
  | cons e es ih =>
    intro n i v h
    simp only [Instr.findNow] at h
    split at h
    · rename_i hs; cases h; exact ⟨Nat.le_refl _, e, by simp, rfl, hs⟩
    · obtain ⟨h1, e', h2, h3, h4⟩ := ih h
      refine ⟨by omega, e', ?_, h3, h4⟩
      rw [show i - n = (i - (n + 1)) + 1 by omega]; simpa using h2
    · cases h

theorem does_mup {t : TypeId} {d : TypeDesc} {z : Value} {x i v : Operand} {o : Op} (ho : o = .mapUpdate t x i v ∨ o = .insert t x i v) (hm : mapD P t = some (d, z)) (h : EOp.wp P ρ w Q (.mup d x i v)) : Does P ρ o T w Q := by
  obtain ⟨k, e, j, ht, hk, hi, hz, hd⟩ := mapD_sound hm
  obtain ⟨r, es, clock, fr, hx, hh, hf, q⟩ := h
  refine does_u (s := Instr.mapUpdate t (ρ x) (ρ i) (ρ v)) ?_ (by rcases ho with rfl | rfl <;> exact fun _ _ _ _ => rfl) q
  unfold Instr.mapUpdate
  rw [run_bind_ok (run_underlying ht), hx]
  simp only
  rw [run_bind_ok (run_getMap hh)]
  simp only
  rw [run_bind_ok (run_checkKey hk hd _ _), run_bind_ok (run_findKey hk hf)]
  cases fr with
  | none =>
    simp only [mapPut, mapClock]
    rw [run_setMap hh]; simp
  | some p =>
    obtain ⟨a, b⟩ := p
    obtain ⟨_, e', h1, h2, h3⟩ := findNow_some hf
    simp only [Nat.sub_zero] at h1
    have hs : (Instr.keyThatStays ((((List.toArray es)[a]?).map (·.key)).getD (ρ i)) (ρ i)).run P w = .ok (ρ i) w := by
      unfold Instr.keyThatStays
      simp only [List.getElem?_toArray, h1, Option.map_some, Option.getD_some, sameNow_bits h3, if_true]; rfl
    simp only
    rw [run_bind_ok hs, run_setMap hh]
    simp [mapPut, mapClock]

theorem does_del {c : Call} {t : TypeId} {d : TypeDesc} {z : Value} {x i : Operand} (hc : c.callee = .builtin .delete) (h0 : c.argTypes[0]? = some t) (h1 : c.args[0]? = some x) (h2 : c.args[1]? = some i) (hm : mapD P t = some (d, z))
    (h : EOp.wp P ρ w Q (.del d x i)) : Does P ρ (.call c) T w Q := by
  obtain ⟨k, e, j, ht, hk, hi, hz, hd⟩ := mapD_sound hm
  have hx' : (c.args.map ρ)[0]? = some (ρ x) := by simp [h1]
  have hy' : (c.args.map ρ)[1]? = some (ρ i) := by simp [h2]
  rcases h with ⟨hx, q⟩ | ⟨r, es, clock, fr, hx, hh, hf, q⟩
  · refine does_builtin hc (s := Builtin.delete_ c.argTypes T (c.args.map ρ)) (fun _ => rfl) ?_ q
    unfold Builtin.delete_
    simp only [h0, hx', hy']
    rw [run_bind_ok (run_underlying ht), hx]
    simp only
    rw [run_bind_ok (run_checkKey hk hd _ _)]; rfl
  · refine does_builtin hc (s := Builtin.delete_ c.argTypes T (c.args.map ρ)) (fun _ => rfl) ?_ q
    unfold Builtin.delete_
    simp only [h0, hx', hy']
    rw [run_bind_ok (run_underlying ht), hx]
    simp only
    rw [run_bind_ok (run_getMap hh)]
    simp only
    rw [run_bind_ok (run_checkKey hk hd _ _), run_bind_ok (run_findKey hk hf)]
    cases fr with
    | none => simp only [mapDel]; rw [run_bind_ok (run_setMap hh)]; rfl
    | some p =>
      obtain ⟨a, b⟩ := p
      simp only [mapDel]
      rw [run_bind_ok (run_setMap hh)]
      obtain ⟨_, e', g1, _⟩ := findNow_some hf
      simp only [Nat.sub_zero] at g1
      have hlt : a < es.length := by
        rcases Nat.lt_or_ge a es.length with g | g
        · exact g
        · rw [List.getElem?_eq_none g] at g1; cases g1
      simp [Array.eraseIdxIfInBounds, hlt]

theorem does_clr {c : Call} {t k e : TypeId} {x : Operand} (hc : c.callee = .builtin .clear) (h0 : c.argTypes[0]? = some t) (h1 : c.args[0]? = some x) (ht : P.underlying t = some (.map k e))
    (h : EOp.wp P ρ w Q (.clr x)) : Does P ρ (.call c) T w Q := by
  have hx' : (c.args.map ρ)[0]? = some (ρ x) := by simp [h1]
  obtain ⟨r, es, clock, hx, hh, q⟩ := h
  refine does_builtin hc (s := Builtin.clear_ c.argTypes T (c.args.map ρ)) (fun _ => rfl) ?_ q
  unfold Builtin.clear_
  simp only [h0, hx']
  rw [run_bind_ok (run_underlying ht), hx]
  simp only
  rw [run_bind_ok (run_getMap hh)]
  simp only
  rw [run_bind_ok (run_setMap hh)]; rfl

theorem does_clS {c : Call} {t e : TypeId} {i : TypeInfo} {z : Value} {x : Operand} (hc : c.callee = .builtin .clear) (h0 : c.argTypes[0]? = some t) (h1 : c.args[0]? = some x) (ht : P.underlying t = some (.slice e)) (hi : P.info? e = some i) (hz : i.zero = some z)
    (h : EOp.wp P ρ w Q (.clS (vcells z) x)) : Does P ρ (.call c) T w Q := by
  have hx' : (c.args.map ρ)[0]? = some (ρ x) := by simp [h1]
  obtain ⟨a, n, cp, hx, h⟩ := h
  rcases h with ⟨rfl, q⟩ | ⟨b, o, L, T', fz, rfl, hb, hpos, h1', hl, hf, q⟩
  · refine does_builtin hc (s := Builtin.clear_ c.argTypes T (c.args.map ρ)) (fun _ => rfl) ?_ q
    unfold Builtin.clear_
    simp only [h0, hx']
    rw [run_bind_ok (run_underlying ht), hx]
    cases a <;> rfl
  · refine does_builtin hc (s := Builtin.clear_ c.argTypes T (c.args.map ρ)) (fun _ => rfl) ?_ q
    unfold Builtin.clear_
    simp only [h0, hx']
    rw [run_bind_ok (run_underlying ht), hx]
    have hzl : (zerosL (vcells z) n).length = n * (vcells z).length := by simp [zerosL]
    have hs : (storeCells ⟨b, o, none⟩ (Builtin.zeroCells z.cells n).toList).run P w = .ok () (setBlk w b (.cells (L.take o ++ zerosL (vcells z) n ++ L.drop (o + n * (vcells z).length)).toArray T' fz)) := by
      rw [vcells_eq, zeroCells_eq _ hpos]
      have := run_cells_store (P := P) (a := ⟨b, o, none⟩) (xs := zerosL (vcells z) n) rfl hb h1' (by rw [hzl]; exact hl) (by rw [hzl]; exact hf)
      rw [hzl] at this; exact this
    cases n with
    | zero =>
      simp only
      have e1 : zerosL (vcells z) 0 = [] := rfl
      rw [e1]
      simp only [Nat.zero_mul, Nat.add_zero, List.append_nil, List.take_append_drop]
      rw [setBlk_self hb]; rfl
    | succ n =>
      simp only
      rw [run_bind_ok (run_zero hi hz), run_bind_ok hs]; rfl

theorem does_rngS {t : TypeId} {x : Operand} (ht : P.underlying t = some .string) (h : EOp.wp P ρ w Q (.rngS x)) : Does P ρ (.range t x) T w Q := by
  obtain ⟨s, hx, q⟩ := h
  refine does_v (s := Instr.range t (ρ x)) ?_ (fun _ _ _ _ => rfl) q
  unfold Instr.range
  rw [run_bind_ok (run_underlying ht), hx]; rfl

theorem does_rngM {t k e : TypeId} {x : Operand} (ht : P.underlying t = some (.map k e)) (h : EOp.wp P ρ w Q (.rngM x)) : Does P ρ (.range t x) T w Q := by
  rcases h with ⟨hx, q⟩ | ⟨r, es, clock, hx, hh, q⟩
  · refine does_v (s := Instr.range t (ρ x)) ?_ (fun _ _ _ _ => rfl) q
    unfold Instr.range
    rw [run_bind_ok (run_underlying ht), hx]; rfl
  · refine does_v (s := Instr.range t (ρ x)) ?_ (fun _ _ _ _ => rfl) q
    unfold Instr.range
    rw [run_bind_ok (run_underlying ht), hx]
    simp only
    rw [run_bind_ok (run_getMap hh)]; rfl

theorem run_getIt {r : Nat} {o : Obj} (h : w.heap[r]? = some o) (ho : ∀ c t f, o ≠ .cells c t f) : (getObj r).run P w = .ok o w := by
  cases o <;> first | (exact absurd rfl (ho _ _ _)) | simp [getObj, Sem.run, h]

theorem run_setIt {r : Nat} {o o' : Obj} (h : w.heap[r]? = some o) (ho : ∀ c t f, o ≠ .cells c t f) : (setObj r o').run P w = .ok () (setBlk w r o') := by
  cases o <;> first | (exact absurd rfl (ho _ _ _)) | simp [setObj, Sem.run, h, setBlk]

theorem does_nxtS {x : Operand} (h : EOp.wp P ρ w Q (.nxtS x)) : Does P ρ (.next x true) T w Q := by
  obtain ⟨b, s, pos, hx, hh, q⟩ := h
  by_cases hp : pos < s.size
  · rw [if_pos hp] at q
    refine does_v (s := Instr.next (ρ x) true T) ?_ (fun _ _ _ _ => rfl) q
    unfold Instr.next
    rw [hx]
    simp only
    rw [run_bind_ok (run_getIt hh (by intros; exact Obj.noConfusion))]
    simp only [if_pos hp]
    rw [run_bind_ok (run_setIt hh (by intros; exact Obj.noConfusion))]; rfl
  · rw [if_neg hp] at q
    refine does_v (s := Instr.next (ρ x) true T) ?_ (fun _ _ _ _ => rfl) q
    unfold Instr.next
    rw [hx]
    simp only
    rw [run_bind_ok (run_getIt hh (by intros; exact Obj.noConfusion))]
    simp only [if_neg hp]; rfl

theorem does_ent {x : Operand} (h : EOp.wp P ρ w Q (.ent x)) : Does P ρ (.entry x) T w Q := by
  obtain ⟨b, m, since, seen, es, clock, stamp, e, hx, hh, hs, hm, hf, q⟩ := h
  refine does_v (s := Instr.entry (ρ x)) ?_ (fun _ _ _ _ => rfl) q
  unfold Instr.entry
  rw [hx]
  simp only
  rw [run_bind_ok (run_getIt hh (by intros; exact Obj.noConfusion))]
  have hb : (List.toArray seen).back? = some stamp := by simpa using hs
  simp only [hb]
  rw [run_bind_ok (run_getMap hm)]
  simp only [bne_self_eq_false, Bool.false_eq_true, if_false]
  have hf' : (List.toArray es).find? (fun e => e.born == stamp) = some e := by simpa using hf
  simp only [hf']; rfl

theorem does_nxtM {x : Operand} (h : EOp.wp P ρ w Q (.nxtM x)) : Does P ρ (.next x false) T w Q := by
  obtain ⟨b, hx, h⟩ := h
  rcases h with ⟨x1, y1, z1, hh, q⟩ | ⟨m, since, seen, last, es, clock, hh, hm, hsl, hborn, q⟩
  · refine does_v (s := Instr.next (ρ x) false T) ?_ (fun _ _ _ _ => rfl) q
    unfold Instr.next
    rw [hx]
    simp only
    rw [run_bind_ok (run_getIt hh (by intros; exact Obj.noConfusion))]; rfl
  · have hold : (((List.toArray es).filter fun e => !(List.toArray seen).contains e.born).filter fun e => decide (e.born < since)) = (es.filter fun e => !seen.contains e.born).toArray := by
      rw [List.filter_toArray, List.filter_toArray, List.filter_eq_self.2]
      · congr 1
        apply List.filter_congr
        intro e _; simp
      · intro e he; simpa using hborn e (List.mem_filter.1 he).1
    have hnew : (((List.toArray es).filter fun e => !(List.toArray seen).contains e.born).filter fun e => decide (e.born ≥ since)) = #[] := by
      rw [List.filter_toArray, List.filter_toArray]
      have : List.filter (fun e : MapEntry => decide (e.born ≥ since)) (List.filter (fun e => !(List.toArray seen).contains e.born) es) = [] := by
        rw [List.filter_eq_nil_iff]
        intro e he; have := hborn e (List.mem_filter.1 he).1; simp; omega
      rw [this]
    generalize hleft : (es.filter fun e => !seen.contains e.born) = left at *
    have hun : (!(List.toArray seen).isEmpty && !(List.toArray es).isEmpty && (List.toArray es).all (fun e => decide (e.born ≥ last))) = false := by
      cases es with
      | nil => simp
      | cons e es =>
        have := hborn e (.head _)
        have : decide (e.born ≥ last) = false := by simp; omega
        simp [this]
    have hcand : ∀ c : Option MapEntry, c ∈ (if left.toArray.isEmpty then #[none] else #[]) ++ (left.toArray ++ #[]).map some → (∃ e, c = some e ∧ e ∈ es ∧ seen.contains e.born = false) ∨ (c = none ∧ ∀ e ∈ es, seen.contains e.born = true) := by
      intro c hc
      rw [Array.mem_append] at hc
      rcases hc with hc | hc
      · split at hc
        · rename_i he
          simp at hc
          right
          refine ⟨hc, fun e hm => ?_⟩
          have : left = [] := by simpa using he
          rw [this] at hleft
          have := List.filter_eq_nil_iff.1 hleft e hm
          simpa using this
        · simp at hc
      · simp at hc
        obtain ⟨e, he, rfl⟩ := hc
        rw [← hleft] at he
        have := List.mem_filter.1 he
        exact .inl ⟨e, rfl, this.1, by simpa using this.2⟩
    have hsize : 0 < ((if left.toArray.isEmpty then #[none] else #[]) ++ (left.toArray ++ #[]).map some).size := by
      cases left <;> simp
    -- the choice
    have hch : ∃ i w', (w' = w ∨ w' = drew w) ∧ i < ((if left.toArray.isEmpty then #[none] else #[]) ++ (left.toArray ++ #[]).map some).size ∧
        (choose (.mapNext ((if left.toArray.isEmpty then #[none] else #[]) ++ (left.toArray ++ #[]).map some).size)).run P w = .ok i w' := by
      generalize ((if left.toArray.isEmpty then #[none] else #[]) ++ (left.toArray ++ #[]).map some).size = n at *
      by_cases hf : (Question.mapNext n).forced = true
      · exact ⟨0, w, .inl rfl, hsize, by simp [choose, Sem.run, hf]⟩
      · have hf' : (Question.mapNext n).forced = false := by simpa using hf
        exact ⟨_, _, .inr rfl, Nat.mod_lt _ hsize, run_choose _ hf'⟩
    obtain ⟨i, w', hw', hi, hrun⟩ := hch
    have hget : ((if left.toArray.isEmpty then #[none] else #[]) ++ (left.toArray ++ #[]).map some)[i]? = some (((if left.toArray.isEmpty then #[none] else #[]) ++ (left.toArray ++ #[]).map some)[i]) := Array.getElem?_eq_getElem hi
    have hc := hcand _ (Array.getElem_mem hi)
    generalize ((if left.toArray.isEmpty then #[none] else #[]) ++ (left.toArray ++ #[]).map some)[i] = c at *
    have hh' : w'.heap[b]? = some (.mapIter (some m) since (List.toArray seen) last) := by rcases hw' with rfl | rfl <;> exact hh
    rcases hc with ⟨e, rfl, h1, h2⟩ | ⟨rfl, h1⟩
    · refine does_v (s := Instr.next (ρ x) false T) ?_ (fun _ _ _ _ => rfl) ((q w' hw').1 e h1 h2)
      unfold Instr.next
      rw [hx]
      simp only
      rw [run_bind_ok (run_getIt hh (by intros; exact Obj.noConfusion))]
      simp only
      rw [run_bind_ok (run_getMap hm)]
      simp only [hun, Bool.false_eq_true, if_false, hold, hnew]
      rw [run_bind_ok hrun]
      simp only [hget]
      rw [run_bind_ok (run_setIt hh' (by intros; exact Obj.noConfusion))]
      simp
    · refine does_v (s := Instr.next (ρ x) false T) ?_ (fun _ _ _ _ => rfl) ((q w' hw').2 h1)
      unfold Instr.next
      rw [hx]
      simp only
      rw [run_bind_ok (run_getIt hh (by intros; exact Obj.noConfusion))]
      simp only
      rw [run_bind_ok (run_getMap hm)]
      simp only [hun, Bool.false_eq_true, if_false, hold, hnew]
      rw [run_bind_ok hrun]
      simp only [hget]; rfl

theorem does_inv {c : Call} {recv : Operand} {name : String} (hc : c.callee = .invoke recv name) (h : EOp.wp P ρ w Q (.inv name recv c.args)) : Does P ρ (.call c) T w Q := by
  obtain ⟨t, v, i, m, f, e, fn, hr, hi, hm, hp, hmf, ht, hf, hb, hn, q⟩ := h
  refine ⟨_, w, fun d pos af g => ?_, q⟩
  show Sem.run P (do let d ← resolve ρ c T; invoke d.target d.args) w = _
  have hres : (resolve ρ c T).run P w = .ok { target := .fn (.method name) #[], args := #[ρ recv] ++ c.args.map ρ } w := by
    unfold resolve; simp only [hc]; rfl
  rw [run_bind_ok hres]
  rw [hr]
  have h0 : ∀ X : Value, (#[X] ++ c.args.map ρ)[0]? = some X := fun X => by
    have : (0 : Nat) < (#[X] : Array Value).size := Nat.one_pos
    rw [Array.getElem?_append_left this]; rfl
  have h1 : (#[Value.iface t v] ++ c.args.map ρ).extract 1 (#[Value.iface t v] ++ c.args.map ρ).size = c.args.map ρ := by
    apply Array.ext'; simp [List.take_of_length_le]
  simp only [invoke, h0, callMethod]
  rw [h1, run_program]
  have hmeth : (method (P.types.size + Made.depth) t v name).run P w = .ok (f, v) w := by
    obtain ⟨k, hk⟩ : ∃ k, P.types.size + Made.depth = k + 1 := ⟨P.types.size + Made.depth - 1, by unfold Made.depth; omega⟩
    rw [hk]
    unfold method
    rw [run_bind_ok (run_info hi)]
    simp only [hm, hp]
    have hfo : (follow (#[] : Array FieldStep).toList t (.val v)).run P w = .ok (t, .val v) w := rfl
    rw [run_bind_ok hfo]
    simp only [hmf]
    have hra : ∀ wr, (receiverAt t (.val v) true wr).run P w = .ok v w := by
      intro wr
      unfold receiverAt
      rw [run_bind_ok (run_underlying ht)]; rfl
    rw [run_bind_ok (hra _)]; rfl
  rw [run_bind_ok hmeth]
  simp only [callFunc]
  rw [run_program]
  simp only [hf, hn, Bool.false_eq_true, if_false]
  cases hbo : fn.body with
  | none => rw [hbo] at hb; cases hb
  | some b => simp
end
end Eng
end Go.Proofs.YtnfomoeicgdkkaaGreatDoor

/- Whatever an operation is resolved to, the model does: jointly. -/
set_option linter.unusedSimpArgs false
set_option linter.unusedVariables false
namespace Go.Proofs.YtnfomoeicgdkkaaGreatDoor
namespace Eng

section
variable {P : Program} {w : World} {ρ : Operand → Value} {T : TypeId} {Q : Next → World → Prop}

theorem compile_does {o : Op} {e : EOp} (hρ : ∀ g, ρ (.func g) = .func (.func g) #[] #[]) (hcst : ∀ v, ρ (.const v) = v) (hc : compileOp P o T = some e) (h : e.wp P ρ w Q) : Does P ρ o T w Q := by
  cases o with
  | move x => cases hc; exact does_v (s := pure (ρ x)) rfl (fun _ _ _ _ => rfl) h
  | assign x => cases hc; exact does_v (s := pure (ρ x)) rfl (fun _ _ _ _ => rfl) h
  | pick c a b =>
    cases hc
    obtain ⟨t, ht, q⟩ := h
    refine ⟨.value (if t then ρ a else ρ b), w, fun d pos af g => ?_, q⟩
    show Sem.run P (do pure (Next.value (if ← asBool (ρ c) then ρ a else ρ b))) w = _
    rw [ht]; rfl
  | nilCheck x =>
    cases hc
    obtain ⟨a, hx, q⟩ := h
    refine ⟨.value (.pointer (some a)), w, fun d pos af g => ?_, q⟩
    simp only [execOp, hx]; rfl
  | alloc t =>
    simp only [compileOp] at hc
    split at hc
    · rename_i i hi
      cases hz : i.zero with
      | none => rw [hz] at hc; cases hc
      | some z => rw [hz] at hc; cases hc; exact does_alloc hi hz h
    · cases hc
  | box t x => cases hc; exact does_box h
  | load t x =>
    simp only [compileOp] at hc
    split at hc
    · rename_i ha
      cases hi : P.info? t with
      | none => rw [hi] at hc; cases hc
      | some i => rw [hi] at hc; cases hc; exact does_ldn ha hi h
    · rename_i ha; cases hc; exact does_ld1 ha h
    · cases hc
  | store t x y =>
    simp only [compileOp] at hc
    cases hi : P.info? t with
    | none => rw [hi] at hc; cases hc
    | some i => rw [hi] at hc; cases hc; exact does_st hi h
  | fieldAddr s x f =>
    simp only [compileOp] at hc
    split at hc
    · rename_i fs hs
      split at hc
      · rename_i fd hf
        split at hc
        · rename_i i hi
          split at hc
          · cases hc
          · rename_i h0; cases hc; exact does_off hs hf hi h0 h
        · cases hc
      · cases hc
    · cases hc
  | binOp op t x y t' =>
    simp only [compileOp] at hc
    split at hc
    · cases hc; exact does_bin h
    · cases hc; exact does_bin h
    · rename_i n e ht
      split at hc
      · rename_i k he
        split at hc
        · rename_i hcond
          cases hc
          have hsz : ∃ j, P.info? e = some j ∧ j.size = 1 := by
            have := hcond.2
            unfold Program.cellsOf at this
            cases hj : P.info? e with
            | none => rw [hj] at this; simp at this
            | some j => rw [hj] at this; exact ⟨j, rfl, by simpa using this⟩
          obtain ⟨j, hj, h1⟩ := hsz
          exact does_eqa (neg := false) ht he hj h1 hcond.1 h
        · cases hc
      · rename_i k he
        split at hc
        · rename_i hcond
          cases hc
          have hsz : ∃ j, P.info? e = some j ∧ j.size = 1 := by
            have := hcond.2
            unfold Program.cellsOf at this
            cases hj : P.info? e with
            | none => rw [hj] at this; simp at this
            | some j => rw [hj] at this; exact ⟨j, rfl, by simpa using this⟩
          obtain ⟨j, hj, h1⟩ := hsz
          exact does_eqa (neg := true) ht he hj h1 hcond.1 h
        · cases hc
      · cases hc
    · rename_i d _ _ _ hd
      split at hc
      · split at hc
        · cases hc; exact does_eqv (neg := false) hd h
        · cases hc; exact does_eqv (neg := true) hd h
        · cases hc
      · cases hc
    · cases hc
  | unOp op t x => cases hc; exact does_un h
  | convert s t x =>
    simp only [compileOp] at hc
    split at hc
    · rename_i hs ht; cases hc; exact does_cvI hs ht h
    · rename_i hs ht; cases hc; exact does_cvSS hs ht h
    · rename_i e hs ht
      split at hc
      · rename_i he; cases hc; exact does_cvSB hs ht he h
      · cases hc
    · rename_i f e hs ht
      split at hc
      · rename_i he
        split at hc
        · rename_i hst; cases hc; exact does_cvLit hs ht he hst h
        · cases hc
      · cases hc
    · rename_i e hs ht
      split at hc
      · rename_i he; cases hc; exact does_cvBS hs ht he h
      · cases hc
    · cases hc
  | field t x f =>
    simp only [compileOp] at hc
    split at hc
    · rename_i fs ht
      split at hc
      · rename_i fd hf
        split at hc
        · rename_i i ha hi; cases hc; exact does_fldn ht hf ha hi h
        · rename_i ha; cases hc; exact does_fld1 ht hf ha h
        · cases hc
      · cases hc
    · cases hc
  | extract x i => cases hc; exact does_ext h
  | indexAddr t x i =>
    simp only [compileOp] at hc
    split at hc
    · rename_i e ht
      cases hj : P.info? e with
      | none => rw [hj] at hc; cases hc
      | some j => rw [hj] at hc; cases hc; exact does_ixS ht hj h
    · rename_i n e ht
      cases hj : P.info? e with
      | none => rw [hj] at hc; cases hc
      | some j => rw [hj] at hc; cases hc; exact does_ixA ht hj h
    · cases hc
  | index t x i =>
    simp only [compileOp] at hc
    split at hc
    · rename_i ht; cases hc; exact does_idS ht h
    · rename_i n e ht
      split at hc
      · rename_i j ha hj; cases hc; exact does_idAn ht ha hj h
      · rename_i j ha hj; cases hc; exact does_idA1 ht ha hj h
      · cases hc
    · cases hc
  | slice t x lo hi mx =>
    simp only [compileOp] at hc
    split at hc
    · rename_i e ht
      cases hj : P.info? e with
      | none => rw [hj] at hc; cases hc
      | some j => rw [hj] at hc; cases hc; exact does_slS ht hj h
    · rename_i n e ht
      cases hj : P.info? e with
      | none => rw [hj] at hc; cases hc
      | some j => rw [hj] at hc; cases hc; exact does_slA ht hj h
    · rename_i ht
      split at hc
      · cases hc
      · rename_i hm
        have : mx = none := by cases mx <;> simp_all
        subst this
        cases hc; exact does_slT ht h
    · cases hc
  | build t parts =>
    simp only [compileOp] at hc
    split at hc
    · rename_i i fs hi ht
      split at hc
      · rename_i z hz
        cases hp : partsAt (fun k => (fs[k]?).bind fun f => (P.info? f.type).map fun j => (f.offset, j.size)) parts with
        | none => rw [hp] at hc; cases hc
        | some ps =>
          rw [hp] at hc
          simp only [Option.bind_some] at hc
          split at hc
          · rename_i hall; cases hc; exact does_buildS hi ht hz hall hp h
          · cases hc
      · cases hc
    · rename_i i n e hi ht
      split at hc
      · rename_i z j hz hj
        cases hp : partsAt (fun k => some (k * j.size, j.size)) parts with
        | none => rw [hp] at hc; cases hc
        | some ps => rw [hp] at hc; cases hc; exact does_buildA hi ht hz hj hp h
      · cases hc
    · cases hc
  | buildSlice t n parts =>
    simp only [compileOp] at hc
    split at hc
    · rename_i e ht
      split at hc
      · rename_i j hj
        split at hc
        · rename_i z hz
          split at hc
          · cases hc
          · rename_i hcond
            have h1 : ¬ n * j.size > 2 ^ 24 := fun x => hcond (.inl x)
            have h2 : (vcells z).length = j.size := Classical.byContradiction fun x => hcond (.inr (.inl x))
            have h3 : j.size ≠ 0 := fun x => hcond (.inr (.inr x))
            cases hp : partsAt (fun k => some (k * j.size, j.size)) parts with
            | none => rw [hp] at hc; cases hc
            | some ps => rw [hp] at hc; cases hc; exact does_bsl ht hj hz h1 h2 h3 hp h
        · cases hc
      · cases hc
    · cases hc
  | makeSlice t l c =>
    simp only [compileOp] at hc
    split at hc
    · rename_i e ht
      split at hc
      · rename_i j hj
        split at hc
        · rename_i z hz
          split at hc
          · cases hc
          · rename_i hcond
            have h2 : (vcells z).length = j.size := Classical.byContradiction fun x => hcond (.inl x)
            have h3 : j.size ≠ 0 := fun x => hcond (.inr (.inl x))
            have h4 : j.bytes ≠ 0 := fun x => hcond (.inr (.inr x))
            cases hc; exact does_mks ht hj hz h2 h3 h4 h
        · cases hc
      · cases hc
    · cases hc
  | makeFunc fn first cap => cases hc; exact does_v (s := Instr.makeFunc fn (first.map ρ) (cap.map ρ)) rfl (fun _ _ _ _ => rfl) h
  | makeInterface t x =>
    simp only [compileOp] at hc
    split at hc
    · cases hc
    · rename_i d hn hd; cases hc; exact does_mki hd (fun ms e => by subst e; exact hn _ rfl) h
    · cases hc
  | makeMap t r =>
    simp only [compileOp] at hc
    split at hc
    · rename_i k e ht; cases hc; exact does_mkm (.inl rfl) ht h
    · rename_i n k e ht; cases hc; exact does_mkm (.inr ⟨n, rfl, hcst _⟩) ht h
    · cases hc
  | lookup t x i ok =>
    simp only [compileOp] at hc
    cases hm : mapD P t with
    | none => rw [hm] at hc; cases hc
    | some p => rw [hm] at hc; cases hc; exact does_lkp hm h
  | mapUpdate t m k v =>
    simp only [compileOp] at hc
    cases hm : mapD P t with
    | none => rw [hm] at hc; cases hc
    | some p => rw [hm] at hc; cases hc; exact does_mup (.inl rfl) hm h
  | insert t m k v =>
    simp only [compileOp] at hc
    cases hm : mapD P t with
    | none => rw [hm] at hc; cases hc
    | some p => rw [hm] at hc; cases hc; exact does_mup (.inr rfl) hm h
  | range t x =>
    simp only [compileOp] at hc
    split at hc
    · rename_i ht; cases hc; exact does_rngS ht h
    · rename_i k e ht; cases hc; exact does_rngM ht h
    · cases hc
  | next it s =>
    simp only [compileOp] at hc
    cases s with
    | true => cases hc; exact does_nxtS h
    | false => cases hc; exact does_nxtM h
  | entry it => cases hc; exact does_ent h
  | call c =>
    simp only [compileOp] at hc
    split at hc
    · rename_i recv name hcal; cases hc; exact does_inv hcal h
    · rename_i hcal
      split at hc
      · rename_i t x y ht hx hy
        cases hm : mapD P t with
        | none => rw [hm] at hc; cases hc
        | some p => rw [hm] at hc; cases hc; exact does_del hcal ht hx hy hm h
      · cases hc
    · rename_i hcal
      split at hc
      · rename_i t x ht hx
        split at hc
        · rename_i k e hd; cases hc; exact does_clr hcal ht hx hd h
        · rename_i e hd
          cases hi : P.info? e with
          | none => rw [hi] at hc; cases hc
          | some i =>
            rw [hi] at hc
            simp only [Option.bind_some] at hc
            cases hz : i.zero with
            | none => rw [hz] at hc; cases hc
            | some z => rw [hz] at hc; cases hc; exact does_clS hcal ht hx hd hi hz h
        · cases hc
      · cases hc
    · rename_i g hcal
      split at hc
      · rename_i fn hf
        split at hc
        · rename_i hcond; cases hc; exact does_call hcal hf hcond.1 hcond.2 (hρ g) h
        · cases hc
      · cases hc
    · rename_i f _ hcal; cases hc; exact does_callv hcal h
    · rename_i hcal
      split at hc
      · rename_i t x ht hx
        split at hc
        · rename_i hd; cases hc; exact does_lenT hcal ht hx hd h
        · rename_i e hd; cases hc; exact does_len hcal ht hx hd h
        · rename_i k e hd; cases hc; exact does_lenm hcal ht hx hd h
        · cases hc
      · cases hc
    · rename_i hcal
      split at hc
      · rename_i t u x y ht hu hx hy
        split at hc
        · rename_i e f hd hdu
          split at hc
          · rename_i j hj
            split at hc
            · rename_i z hz
              split at hc
              · cases hc
              · rename_i hcond
                have h2 : (vcells z).length = j.size := Classical.byContradiction fun x => hcond (.inl x)
                have h3 : j.size ≠ 0 := fun x => hcond (.inr (.inl x))
                have h4 : j.bytes ≠ 0 := fun x => hcond (.inr (.inr x))
                cases hc; exact does_app hcal ht hu hx hy hd (.inr ⟨_, hdu⟩) hj hz h2 h3 h4 h
            · cases hc
          · cases hc
        · rename_i e hd hdu
          split at hc
          · rename_i j hj
            split at hc
            · rename_i z hz
              split at hc
              · cases hc
              · rename_i hcond
                have h2 : (vcells z).length = j.size := Classical.byContradiction fun x => hcond (.inl x)
                have h3 : j.size ≠ 0 := fun x => hcond (.inr (.inl x))
                have h4 : j.bytes ≠ 0 := fun x => hcond (.inr (.inr x))
                cases hc; exact does_app hcal ht hu hx hy hd (.inl hdu) hj hz h2 h3 h4 h
            · cases hc
          · cases hc
        · cases hc
      · cases hc
    · rename_i hcal
      split at hc
      · rename_i t x y ht hx hy
        split at hc
        · rename_i e hd
          cases hj : P.info? e with
          | none => rw [hj] at hc; cases hc
          | some j => rw [hj] at hc; cases hc; exact does_cpy hcal ht hx hy hd hj h
        · cases hc
      · cases hc
    · rename_i hcal
      split at hc
      · rename_i x y ha; cases hc; exact does_mx2 hcal ha h
      · cases hc
    · rename_i hcal
      split at hc
      · rename_i x y ha; cases hc; exact does_mn2 hcal ha h
      · cases hc
    · cases hc; exact does_raw h fun _ _ _ _ => rfl
  | _ => cases hc; exact does_raw h fun _ _ _ _ => rfl

end
end Eng
end Go.Proofs.YtnfomoeicgdkkaaGreatDoor

/- Frames, code with its operations resolved, and the two judgements: of operations (Ops) and of what is to do (Run). -/
set_option linter.unusedSimpArgs false
set_option linter.unusedVariables false
namespace Go.Proofs.YtnfomoeicgdkkaaGreatDoor
namespace Eng

abbrev Fr := List (Nat × Value)

def look : Fr → Nat → Option Value
  | [], _ => none
  | (k, v) :: r, t => bif Nat.beq k t then some v else look r t

def get (l : Fr) : Operand → Option Value
  | .tmp t => look l t
  | .const v => some v
  | .global g => some (.pointer (some ⟨g, 0, none⟩))
  | .func f => some (.func (.func f) #[] #[])

structure FrOk (n : Nat) (l : Fr) (a : Act) : Prop where
  defers : a.defers = []
  size : a.tmps.size = n
  has : ∀ t v, look l t = some v → a.tmps[t]? = some v

def Agrees (l : Fr) (ρ : Operand → Value) : Prop := ∀ x v, get l x = some v → ρ x = v

theorem FrOk.agrees {n : Nat} {l : Fr} {a : Act} (h : FrOk n l a) : Agrees l a.eval := by
  intro x v e
  cases x with
  | tmp t => have := h.has t v e; simp [Act.eval, Array.getD_eq_getD_getElem?, this]
  | const c => cases e; rfl
  | global g => cases e; rfl
  | func f => cases e; rfl

theorem look_cons (k : Nat) (v : Value) (l : Fr) (t : Nat) : look ((k, v) :: l) t = if k = t then some v else look l t := by
  simp only [look]
  by_cases h : k = t
  · subst h; simp
  · rw [if_neg h]
    have : Nat.beq k t = false := by
      cases hb : Nat.beq k t with
      | false => rfl
      | true => exact absurd (Nat.eq_of_beq_eq_true hb) h
    rw [this]; rfl

theorem FrOk.put {n : Nat} {l : Fr} {a : Act} (h : FrOk n l a) {d : Nat} (hd : d < n) (v : Value) : FrOk n ((d, v) :: l) (a.put (some d) v) := by
  refine ⟨h.defers, by simp [Act.put, h.size], fun t u e => ?_⟩
  rw [look_cons] at e
  simp only [Act.put, Array.getElem?_setIfInBounds]
  by_cases hk : d = t
  · rw [if_pos hk] at e ⊢
    rw [if_pos (by rw [h.size]; exact hd)]; exact e
  · rw [if_neg hk] at e ⊢; exact h.has t u e

def FrEq (l l' : Fr) : Prop := ∀ t, look l t = look l' t
theorem FrOk.eq {n : Nat} {l l' : Fr} {a : Act} (h : FrOk n l a) (e : FrEq l l') : FrOk n l' a :=
  ⟨h.defers, h.size, fun t v x => h.has t v (by rw [e t]; exact x)⟩

/-- a frame of which less is known -/
def FrSub (l l' : Fr) : Prop := ∀ t v, look l' t = some v → look l t = some v
theorem FrOk.sub {n : Nat} {l l' : Fr} {a : Act} (h : FrOk n l a) (e : FrSub l l') : FrOk n l' a :=
  ⟨h.defers, h.size, fun t v x => h.has t v (e t v x)⟩

structure EG where
  idx : Nat
  dst : Option Nat
  guard : Option (Nat × Bool)
  calm : Bool
  op : EOp
  deriving Inhabited

def EG.put (e : EG) (l : Fr) (v : Value) : Fr := match e.dst with
  | some d => (d, v) :: l
  | none => l

def asB : Value → Option Bool
  | .bool b => some b
  | _ => none

/-- operations that lay a new block and ask nothing of the world -/
def freshKind : EOp → Bool
  | .mkm | .alloc .. | .box .. | .bsl .. | .mks .. | .rngS _ => true
  | _ => false

def freshRun (ρ : Operand → Value) : EOp → Option ((Nat → Value) × Obj)
  | .mkm => some (fun b => .map (some b), .map #[] 0)
  | .alloc z T => some (fun b => .pointer (some ⟨b, 0, none⟩), .cells z.toArray T)
  | .box x T => some (fun b => .pointer (some ⟨b, 0, none⟩), .cells (vcells (ρ x)).toArray T)
  | .bsl T z n parts => match buildL z (parts.map fun p => (p.1, p.2.1, ρ p.2.2)) with
    | some cs => some (fun b => .slice (some ⟨b, 0, none⟩) n n, .cells cs.toArray T)
    | none => none
  | .mks T z bytes x y => match ρ x, ρ y with
    | .int _ n, .int _ m => if 0 ≤ n ∧ n ≤ m ∧ (bytes : Int) * m ≤ 2 ^ 48 then some (fun b => .slice (some ⟨b, 0, none⟩) n.toNat m.toNat, .cells (zerosL z m.toNat).toArray T) else none
    | _, _ => none
  | .rngS x => match ρ x with
    | .string s => some (fun b => .pointer (some ⟨b, 0, none⟩), .stringIter s 0)
    | _ => none
  | _ => none

theorem wp_fresh {P : Program} {ρ : Operand → Value} {op : EOp} {mk : Nat → Value} {o : Obj} (h : freshRun ρ op = some (mk, o)) {w : World} {Q : Next → World → Prop} (q : Q (.value (mk w.heap.size)) (newBlk w o)) : op.wp P ρ w Q := by
  cases op <;> simp only [freshRun] at h <;> first | (cases h; done) | skip
  case alloc z T => cases h; exact q
  case box x T => cases h; exact q
  case mkm => cases h; exact q
  case bsl T z n parts =>
    split at h
    · rename_i cs hc; cases h; exact ⟨cs, hc, q⟩
    · cases h
  case mks T z bytes x y =>
    split at h
    · rename_i k n k' m h1 h2
      split at h
      · rename_i hc; cases h; exact ⟨k, k', n, m, h1, h2, hc.1, hc.2.1, hc.2.2, q⟩
      · cases h
    · cases h
  case rngS x =>
    split at h
    · rename_i s hs; cases h; exact ⟨s, hs, q⟩
    · cases h

theorem fresh_kind {ρ : Operand → Value} {op : EOp} {p : (Nat → Value) × Obj} (h : freshRun ρ op = some p) : freshKind op = true := by
  cases op <;> first | rfl | (simp [freshRun] at h; done)

section
variable (P : Program)

def CalmAt (F : Hp) (op : EOp) (l : Fr) (v : Value) : Prop :=
  ∀ w ρ, Agrees l ρ → (∀ b o, F b = some o → w.heap[b]? = some o) → op.wp P ρ w fun r w' => r = .value v ∧ w' = w

def Post (F : Hp) (w : World) (R : Value → List HA → Prop) : Next → World → Prop
  | .value v, w' => ∃ M' h', R v M' ∧ seps M' h' ∧ Fits F h' w' ∧ Keeps w w'
  | .skip, w' => ∃ M' h', R undef M' ∧ seps M' h' ∧ Fits F h' w' ∧ Keeps w w'
  | .enter g args, w' => Calls P g args w' fun e w2 => ∃ v M' h', e = .returned v ∧ R v M' ∧ seps M' h' ∧ Fits F h' w2 ∧ Keeps w w2
  | _, _ => False

def BusyAt (F : Hp) (op : EOp) (l : Fr) (M : List HA) (R : Value → List HA → Prop) : Prop :=
  ∀ F', Ext F F' → ∀ w h ρ, Agrees l ρ → seps M h → Fits F' h w → op.wp P ρ w (Post P F' w R)

/-- an operation that lays a new block, of which the temporaries alone tell what it holds -/
def FreshAt (op : EOp) (l : Fr) (mk : Nat → Value) (o : Obj) : Prop := ∀ ρ, Agrees l ρ → freshRun ρ op = some (mk, o)

/-- the body of an operation that is wanted -/
def Body (F : Hp) (e : EG) (l : Fr) (H : List HA) (next : Value → List HA → Prop) : Prop :=
  if e.calm = true then ∃ v, CalmAt P F e.op l v ∧ next v H else
    if freshKind e.op = true then ∃ mk o, FreshAt e.op l mk o ∧ ∀ b, next (mk b) (.pt b o :: H) else ∃ R, BusyAt P F e.op l H R ∧ ∀ v H', R v H' → next v H'

/-- Operations one behind the other; those that are calm ask the frame alone. -/
def Ops (F : Hp) : List EG → Fr → List HA → (Fr → List HA → Prop) → Prop
  | [], l, H, C => C l H
  | e :: es, l, H, C =>
    match e.guard with
    | none => Body P F e l H fun v H' => Ops F es (e.put l v) H' C
    | some (s, want) => ∃ v, look l s = some v ∧
        (asB v = some want → Body P F e l H fun v H' => Ops F es (e.put l v) H' C) ∧ (asB v ≠ some want → Ops F es (e.put l undef) H C)

/-- Groups of operations, each wholly behind the one ahead of it. -/
def Segs (F : Hp) : List (List EG) → Fr → List HA → (Fr → List HA → Prop) → Prop
  | [], l, H, C => C l H
  | es :: r, l, H, C => (Ops P F es l H fun l' H' => Segs F r l' H' C) ∨
      ∃ S M, (∀ h, seps H h → seps (S ++ M) h) ∧ ∀ F', Ext F F' → Known S F' → Ops P F' es l M fun l' M' => Segs F r l' (S ++ M') C
end

inductive EC where
  | skip
  | seq (a b : EC)
  | cond (c : Operand) (a b : EC)
  | block (id : Nat) (b : EC)
  | loop (b : EC)
  | exit (id : Nat)
  | ret
  | reg (segs : List (List EG))
  deriving Inhabited

/-- masks of what stands ahead of each -/
def masks : List (List Nat) → List Nat → List Nat
  | [], acc => acc
  | es :: r, acc => masks r (acc ++ [es.foldl (fun s e => s ||| (2 ^ e ||| acc.getD e 0)) 0])

def edges (o : Oper) : List Nat := (o.after.toList.filter (Region.binds .any)).map (·.on)

def calmKind : EOp → Bool
  | .mv _ | .pick .. | .nilc _ | .off .. | .ld1 _ | .ldn .. | .cvBS _ | .bin .. | .eqv .. | .eqa .. | .un .. | .cvI .. | .cvSS _ | .len _ | .lenT _ | .fld .. | .ext .. | .ixS .. | .ixA .. | .idS .. | .idA .. | .build ..
  | .slS .. | .slA .. | .slT .. | .mx2 .. | .mn2 .. | .mkf .. | .mki .. | .lkp .. | .lenm _ | .ent _ => true
  | _ => false

/-- calm, and asks nothing of the world -/
def pureKind : EOp → Bool
  | .ld1 _ | .ldn .. | .cvBS _ | .lkp .. | .lenm _ | .ent _ => false
  | op => calmKind op

def tmpsOf (xs : Array Operand) : List Nat := xs.toList.filterMap fun | .tmp t => some t | _ => none

/-- all temporaries that an operation reads, and its guard's -/
def readsOf (o : Oper) (guard : Option (Nat × Bool)) : List Nat := tmpsOf o.op.operands ++ (guard.map (·.1)).toList

def dstOk (n : Nat) : Option Nat → Bool
  | some d => decide (d < n)
  | none => true

def compileG (P : Program) (n : Nat) (ops : Array Oper) (i : Nat) (o : Oper) : Option EG :=
  match compileOp P o.op o.type with
  | none => none
  | some op =>
    if dstOk n o.dst = true then
      match o.guard with
      | none => some ⟨i, o.dst, none, false, op⟩
      | some (j, want) => match (ops[j]?).bind (·.dst) with
        | some s => some ⟨i, o.dst, some (s, want), false, op⟩
        | none => none
    else none

def pickNext (ready pure calm fresh : Nat → Bool) (pending : List Nat) : Option Nat :=
  match pending.find? fun i => pure i && ready i with
  | some i => some i
  | none => match pending.find? fun i => calm i && ready i with
    | some i => some i
    | none => match pending.find? fun i => !fresh i && ready i with
      | some i => some i
      | none => pending.find? ready

def orderOf (ms : List Nat) (pure calm fresh : Nat → Bool) : Nat → List Nat → Nat → List Nat
  | 0, _, _ => []
  | f + 1, pending, done => match pickNext (fun i => ms.getD i 0 ||| done == done) pure calm fresh pending with
    | some i => i :: orderOf ms pure calm fresh f (pending.filter (· != i)) (done ||| 2 ^ i)
    | none => []

/-- cut into groups, each behind all of the one ahead of it that asks or turns the world -/
def cutSegs (ms : List Nat) (imp : Nat → Bool) : List Nat → List Nat → Nat → List (List Nat)
  | [], [], _ => []
  | [], cur, _ => [cur]
  | e :: r, cur, done =>
    if cur.any imp ∧ (e :: r).all (fun x => ms.getD x 0 ||| done == ms.getD x 0) then cur :: cutSegs ms imp r [e] (if imp e then done ||| 2 ^ e else done)
    else cutSegs ms imp r (cur ++ [e]) (if imp e then done ||| 2 ^ e else done)

end Eng
end Go.Proofs.YtnfomoeicgdkkaaGreatDoor

/- Regions that draw their order: every order comes to what the operations say one behind the other. -/
set_option linter.unusedSimpArgs false
set_option linter.unusedVariables false
namespace Go.Proofs.YtnfomoeicgdkkaaGreatDoor
namespace Eng

def EOp.args : EOp → List Operand
  | .mv x | .nilc x | .off x _ | .ld1 x | .ldn x _ | .box x _ | .un _ x | .cvI _ x | .cvLit x | .cvSB _ x | .cvBS x | .cvSS x | .len x | .lenT x | .lenm x | .fld x _ _ | .ext x _ | .mki _ x => [x]
  | .pick c a b => [c, a, b]
  | .st x y _ | .bin _ x y | .eqv _ _ x y | .eqa _ _ _ _ x y | .ixS x y _ | .ixA x y _ _ | .idS x y | .idA x y _ _ _ | .mks _ _ _ x y | .app _ _ _ x y | .cpy _ x y | .mx2 x y | .mn2 x y => [x, y]
  | .alloc _ _ | .raw _ _ | .mkm => []
  | .lkp _ _ _ x y | .del _ x y => [x, y]
  | .mup _ x y z => [x, y, z]
  | .clr x | .clS _ x | .rngS x | .rngM x | .nxtS x | .nxtM x | .ent x => [x]
  | .inv _ r args => r :: args.toList
  | .build _ ps | .bsl _ _ _ ps => ps.map (·.2.2)
  | .slS x _ lo hi mx | .slA x _ _ lo hi mx => x :: (lo.toList ++ hi.toList ++ mx.toList)
  | .slT x lo hi => x :: (lo.toList ++ hi.toList)
  | .call _ args => args.toList
  | .callv f args => f :: args.toList
  | .mkf _ a b => a.toList ++ b.toList

def notRaw : EOp → Bool
  | .raw _ _ => false
  | _ => true

theorem wp_congr {P : Program} {ρ ρ' : Operand → Value} {op : EOp} (hr : notRaw op = true) (h : ∀ x ∈ op.args, ρ x = ρ' x) {w : World} {Q : Next → World → Prop} (q : op.wp P ρ w Q) : op.wp P ρ' w Q := by
  have parts : ∀ ps : List (Nat × Nat × Operand), (∀ x ∈ ps.map (·.2.2), ρ x = ρ' x) → ps.map (fun p => (p.1, p.2.1, ρ p.2.2)) = ps.map (fun p => (p.1, p.2.1, ρ' p.2.2)) := by
    intro ps hp
    apply List.map_congr_left
    intro p hm
    rw [hp p.2.2 (List.mem_map.2 ⟨p, hm, rfl⟩)]
  have opt : ∀ (x : Option Operand) (d : Nat), (∀ y ∈ x.toList, ρ y = ρ' y) → optN ρ x d = optN ρ' x d := by
    intro x d hx
    cases x with
    | none => rfl
    | some y => simp only [optN]; rw [hx y (by simp)]
  have arr : ∀ a : Array Operand, (∀ x ∈ a.toList, ρ x = ρ' x) → a.map ρ = a.map ρ' := by
    intro a ha
    apply Array.map_congr_left
    intro x hx; exact ha x (by simpa using hx)
  cases op <;> simp only [EOp.args, List.mem_cons, List.not_mem_nil, or_false, forall_eq_or_imp, forall_eq, List.mem_append] at h
  case raw => cases hr
  case build z ps => simp only [EOp.wp] at q ⊢; rw [← parts ps h]; exact q
  case bsl T z n ps => simp only [EOp.wp] at q ⊢; rw [← parts ps h]; exact q
  case slS x s lo hi mx =>
    simp only [EOp.wp] at q ⊢
    obtain ⟨h1, h2⟩ := h
    rw [← opt lo _ (fun y hy => h2 y (.inl (.inl hy))), ← h1]
    obtain ⟨a, len, cap, l, h', m, e1, e2, e3, r⟩ := q
    exact ⟨a, len, cap, l, h', m, e1, by rw [← opt mx _ (fun y hy => h2 y (.inr hy))]; exact e2, by rw [← opt hi _ (fun y hy => h2 y (.inl (.inr hy)))]; exact e3, r⟩
  case slA x n s lo hi mx =>
    simp only [EOp.wp] at q ⊢
    obtain ⟨h1, h2⟩ := h
    rw [← opt lo _ (fun y hy => h2 y (.inl (.inl hy))), ← opt hi _ (fun y hy => h2 y (.inl (.inr hy))), ← opt mx _ (fun y hy => h2 y (.inr hy)), ← h1]
    exact q
  case slT x lo hi =>
    simp only [EOp.wp] at q ⊢
    obtain ⟨h1, h2⟩ := h
    obtain ⟨b, l, h', e1, e2, e3, r⟩ := q
    exact ⟨b, l, h', by rw [← h1]; exact e1, by rw [← opt hi _ (fun y hy => h2 y (.inr hy))]; exact e2, by rw [← opt lo _ (fun y hy => h2 y (.inl hy))]; exact e3, r⟩
  case call g args => simp only [EOp.wp] at q ⊢; rw [← arr args h]; exact q
  case callv f args =>
    simp only [EOp.wp] at q ⊢
    rw [← h.1]
    obtain ⟨g, cap, e1, e2, r⟩ := q
    exact ⟨g, cap, e1, e2, by rw [← arr args h.2]; exact r⟩
  case mkf fn a b =>
    simp only [EOp.wp] at q ⊢
    rw [← arr a (fun x hx => h x (.inl hx)), ← arr b (fun x hx => h x (.inr hx))]; exact q
  case inv nm r args => simp only [EOp.wp] at q ⊢; rw [← h.1, ← arr args h.2]; exact q
  all_goals (simp only [EOp.wp] at q ⊢; first
    | exact q
    | (rw [← h]; exact q)
    | (rw [← h.1, ← h.2]; exact q)
    | (rw [← h.1, ← h.2.1, ← h.2.2]; exact q)
    | (simp only [← h]; exact q)
    | (simp only [← h.1, ← h.2]; exact q)
    | (simp only [← h.1, ← h.2.1, ← h.2.2]; exact q))

theorem fresh_congr {ρ ρ' : Operand → Value} {op : EOp} (h : ∀ x ∈ op.args, ρ x = ρ' x) : freshRun ρ op = freshRun ρ' op := by
  cases op <;> simp only [freshRun, EOp.args, List.mem_cons, List.not_mem_nil, or_false, forall_eq_or_imp, forall_eq] at h ⊢
  case box => rw [h]
  case rngS => rw [h]
  case mks => rw [h.1, h.2]
  case bsl T z n ps =>
    have : ps.map (fun p => (p.1, p.2.1, ρ p.2.2)) = ps.map (fun p => (p.1, p.2.1, ρ' p.2.2)) := by
      apply List.map_congr_left
      intro p hm
      rw [h p.2.2 (List.mem_map.2 ⟨p, hm, rfl⟩)]
    rw [this]

theorem wp_mono {P : Program} {ρ : Operand → Value} {op : EOp} {w : World} {Q Q' : Next → World → Prop} (m : ∀ r w', Q r w' → Q' r w') (q : op.wp P ρ w Q) : op.wp P ρ w Q' := by
  cases op <;> simp only [EOp.wp] at q ⊢
  case fld x o n =>
    obtain ⟨cs, h1, h2⟩ := q
    cases n with
    | none => obtain ⟨v, h3, h4⟩ := h2; exact ⟨cs, h1, v, h3, m _ _ h4⟩
    | some n => exact ⟨cs, h1, m _ _ h2⟩
  case idA x i n s k =>
    obtain ⟨cs, k', j, h1, h2, h3, h4, h5⟩ := q
    cases k with
    | none => obtain ⟨v, h6, h7⟩ := h5; exact ⟨cs, k', j, h1, h2, h3, h4, v, h6, m _ _ h7⟩
    | some n => exact ⟨cs, k', j, h1, h2, h3, h4, m _ _ h5⟩
  case app T z bytes x y =>
    obtain ⟨base, sLen, sCap, n, xs, h1, h2, h3, h4⟩ := q
    refine ⟨base, sLen, sCap, n, xs, h1, h2, h3, ?_⟩
    split at h4
    · rename_i hc
      rw [if_pos hc]
      cases base with
      | none => exact m _ _ h4
      | some a =>
        obtain ⟨h5, h6⟩ := h4
        refine ⟨h5, ?_⟩
        split at h6
        · rename_i hx; rw [if_pos hx]; exact m _ _ h6
        · rename_i hx; rw [if_neg hx]
          obtain ⟨L, T', fz, g1, g2, g3, g4, g5⟩ := h6
          exact ⟨L, T', fz, g1, g2, g3, g4, m _ _ g5⟩
    · rename_i hc
      rw [if_neg hc]
      obtain ⟨old, g1, g2, g3⟩ := h4
      exact ⟨old, g1, g2, fun c hc => m _ _ (g3 c hc)⟩
  case cpy s x y =>
    obtain ⟨base, dLen, cap, n, xs, h1, h2, h3, h4⟩ := q
    refine ⟨base, dLen, cap, n, xs, h1, h2, h3, ?_⟩
    cases base with
    | none => exact m _ _ h4
    | some a =>
      obtain ⟨h5, h6⟩ := h4
      refine ⟨h5, ?_⟩
      split at h6
      · rename_i hx; rw [if_pos hx]; exact m _ _ h6
      · rename_i hx; rw [if_neg hx]
        obtain ⟨L, T', fz, g1, g2, g3, g4, g5⟩ := h6
        exact ⟨L, T', fz, g1, g2, g3, g4, m _ _ g5⟩
  case cvSB T x =>
    obtain ⟨s, h1, h2⟩ := q
    exact ⟨s, h1, fun c hc => m _ _ (h2 c hc)⟩
  case lenm x =>
    rcases q with ⟨h1, h2⟩ | ⟨r, es, t, h1, h2, h3⟩
    · exact .inl ⟨h1, m _ _ h2⟩
    · exact .inr ⟨r, es, t, h1, h2, m _ _ h3⟩
  case del d x k =>
    rcases q with ⟨h1, h2⟩ | ⟨r, es, t, fr, h1, h2, h3, h4⟩
    · exact .inl ⟨h1, m _ _ h2⟩
    · exact .inr ⟨r, es, t, fr, h1, h2, h3, m _ _ h4⟩
  case clS z x =>
    obtain ⟨a, n, c, h1, ⟨h2, h3⟩ | ⟨b, o, L, T, fz, g1, g2, g3, g4, g5, g6, g7⟩⟩ := q
    · exact ⟨a, n, c, h1, .inl ⟨h2, m _ _ h3⟩⟩
    · exact ⟨a, n, c, h1, .inr ⟨b, o, L, T, fz, g1, g2, g3, g4, g5, g6, m _ _ g7⟩⟩
  case rngM x =>
    rcases q with ⟨h1, h2⟩ | ⟨r, es, t, h1, h2, h3⟩
    · exact .inl ⟨h1, m _ _ h2⟩
    · exact .inr ⟨r, es, t, h1, h2, m _ _ h3⟩
  case nxtS x =>
    obtain ⟨b, s, pos, h1, h2, h3⟩ := q
    refine ⟨b, s, pos, h1, h2, ?_⟩
    split at h3
    · rename_i hc; rw [if_pos hc]; exact m _ _ h3
    · rename_i hc; rw [if_neg hc]; exact m _ _ h3
  case nxtM x =>
    obtain ⟨b, h1, ⟨x1, y1, z1, h2, h3⟩ | ⟨mm, since, seen, last, es, clock, g1, g2, g3, g4, g5⟩⟩ := q
    · exact ⟨b, h1, .inl ⟨x1, y1, z1, h2, m _ _ h3⟩⟩
    · exact ⟨b, h1, .inr ⟨mm, since, seen, last, es, clock, g1, g2, g3, g4, fun w' hw => ⟨fun e h1 h2 => m _ _ ((g5 w' hw).1 e h1 h2), fun h => m _ _ ((g5 w' hw).2 h)⟩⟩⟩
  all_goals first
    | exact m _ _ q
    | (obtain ⟨a1, q⟩ := q; exact ⟨a1, m _ _ q⟩)
    | (obtain ⟨a1, a2, q⟩ := q; exact ⟨a1, a2, m _ _ q⟩)
    | (obtain ⟨a1, a2, a3, q⟩ := q; exact ⟨a1, a2, a3, m _ _ q⟩)
    | (obtain ⟨a1, a2, a3, a4, q⟩ := q; exact ⟨a1, a2, a3, a4, m _ _ q⟩)
    | (obtain ⟨a1, a2, a3, a4, a5, q⟩ := q; exact ⟨a1, a2, a3, a4, a5, m _ _ q⟩)
    | (obtain ⟨a1, a2, a3, a4, a5, a6, q⟩ := q; exact ⟨a1, a2, a3, a4, a5, a6, m _ _ q⟩)
    | (obtain ⟨a1, a2, a3, a4, a5, a6, a7, q⟩ := q; exact ⟨a1, a2, a3, a4, a5, a6, a7, m _ _ q⟩)
    | (obtain ⟨a1, a2, a3, a4, a5, a6, a7, a8, q⟩ := q; exact ⟨a1, a2, a3, a4, a5, a6, a7, a8, m _ _ q⟩)
    | (obtain ⟨a1, a2, a3, a4, a5, a6, a7, a8, a9, q⟩ := q; exact ⟨a1, a2, a3, a4, a5, a6, a7, a8, a9, m _ _ q⟩)
    | (obtain ⟨a1, a2, a3, a4, a5, a6, a7, a8, a9, a10, q⟩ := q; exact ⟨a1, a2, a3, a4, a5, a6, a7, a8, a9, a10, m _ _ q⟩)
    | (obtain ⟨a1, a2, a3, a4, a5, a6, a7, a8, a9, a10, a11, q⟩ := q; exact ⟨a1, a2, a3, a4, a5, a6, a7, a8, a9, a10, a11, m _ _ q⟩)
    | (obtain ⟨a1, a2, a3, a4, a5, a6, a7, a8, a9, a10, a11, a12, q⟩ := q; exact ⟨a1, a2, a3, a4, a5, a6, a7, a8, a9, a10, a11, a12, m _ _ q⟩)
    | (obtain ⟨a1, a2, a3, a4, a5, a6, a7, a8, a9, a10, a11, a12, a13, q⟩ := q; exact ⟨a1, a2, a3, a4, a5, a6, a7, a8, a9, a10, a11, a12, a13, m _ _ q⟩)
    | (obtain ⟨a1, a2, a3, a4, a5, a6, a7, a8, a9, a10, a11, a12, a13, a14, q⟩ := q; exact ⟨a1, a2, a3, a4, a5, a6, a7, a8, a9, a10, a11, a12, a13, a14, m _ _ q⟩)
    | (obtain ⟨a1, a2, a3, a4, a5, a6, a7, a8, a9, a10, a11, a12, a13, a14, a15, a16, q⟩ := q; exact ⟨a1, a2, a3, a4, a5, a6, a7, a8, a9, a10, a11, a12, a13, a14, a15, a16, m _ _ q⟩)

theorem agrees_switch {l l' : Fr} {ρ' : Operand → Value} {xs : List Operand} (hx : ∀ x ∈ xs, get l x = get l' x) (ha : Agrees l' ρ') : ∃ ρ, Agrees l ρ ∧ ∀ x ∈ xs, ρ x = ρ' x := by
  refine ⟨fun x => (get l x).getD (ρ' x), fun x v e => by simp [e], fun x hm => ?_⟩
  cases e : get l x with
  | none => simp [e]
  | some v =>
    have : get l' x = some v := by rw [← hx x hm]; exact e
    simp [e, ha x v this]

section
variable {P : Program} {F : Hp}

theorem CalmAt.switch {op : EOp} {l l' : Fr} {v : Value} (hr : notRaw op = true) (hx : ∀ x ∈ op.args, get l x = get l' x) (c : CalmAt P F op l v) : CalmAt P F op l' v := by
  intro w ρ' ha hF
  obtain ⟨ρ, h1, h2⟩ := agrees_switch hx ha
  exact wp_congr hr h2 (c w ρ h1 hF)

theorem BusyAt.switch {op : EOp} {l l' : Fr} {M : List HA} {R : Value → List HA → Prop} (hr : notRaw op = true) (hx : ∀ x ∈ op.args, get l x = get l' x) (c : BusyAt P F op l M R) : BusyAt P F op l' M R := by
  intro F' ex w h ρ' ha q f
  obtain ⟨ρ, h1, h2⟩ := agrees_switch hx ha
  exact wp_congr hr h2 (c F' ex w h ρ h1 q f)

theorem FreshAt.switch {op : EOp} {l l' : Fr} {mk : Nat → Value} {o : Obj} (hx : ∀ x ∈ op.args, get l x = get l' x) (c : FreshAt op l mk o) : FreshAt op l' mk o := by
  intro ρ' ha
  obtain ⟨ρ, h1, h2⟩ := agrees_switch hx ha
  rw [← fresh_congr h2]; exact c ρ h1

theorem Body.switch {e : EG} {l l' : Fr} {H : List HA} {next next' : Value → List HA → Prop} (hr : notRaw e.op = true) (hx : ∀ x ∈ e.op.args, get l x = get l' x) (hn : ∀ v H', next v H' → next' v H')
    (b : Body P F e l H next) : Body P F e l' H next' := by
  unfold Body at b ⊢
  split at b
  · rename_i hc; rw [if_pos hc]
    obtain ⟨v, c, n⟩ := b
    exact ⟨v, c.switch hr hx, hn _ _ n⟩
  · rename_i hc; rw [if_neg hc]
    split at b
    · rename_i hf; rw [if_pos hf]
      obtain ⟨mk, o, c, n⟩ := b
      exact ⟨mk, o, c.switch hx, fun b => hn _ _ (n b)⟩
    · rename_i hf; rw [if_neg hf]
      obtain ⟨R, c, n⟩ := b
      exact ⟨R, c.switch hr hx, fun v H' r => hn _ _ (n v H' r)⟩

theorem Body.mono {e : EG} {l : Fr} {H : List HA} {next next' : Value → List HA → Prop} (hn : ∀ v H', next v H' → next' v H')
    (b : Body P F e l H next) : Body P F e l H next' := by
  unfold Body at b ⊢
  split at b
  · rename_i hc; rw [if_pos hc]
    obtain ⟨v, c, n⟩ := b
    exact ⟨v, c, hn _ _ n⟩
  · rename_i hc; rw [if_neg hc]
    split at b
    · rename_i hf; rw [if_pos hf]
      obtain ⟨mk, o, c, n⟩ := b
      exact ⟨mk, o, c, fun b => hn _ _ (n b)⟩
    · rename_i hf; rw [if_neg hf]
      obtain ⟨R, c, n⟩ := b
      exact ⟨R, c, fun v H' r => hn _ _ (n v H' r)⟩

theorem get_eq {l l' : Fr} (h : FrEq l l') (x : Operand) : get l x = get l' x := by
  cases x <;> simp [get, h _]

theorem FrEq.refl (l : Fr) : FrEq l l := fun _ => rfl
theorem FrEq.cons {l l' : Fr} (h : FrEq l l') (d : Nat) (v : Value) : FrEq ((d, v) :: l) ((d, v) :: l') := fun t => by
  rw [look_cons, look_cons, h t]
theorem FrEq.put {l l' : Fr} (h : FrEq l l') (e : EG) (v : Value) : FrEq (e.put l v) (e.put l' v) := by
  unfold EG.put; split
  · exact h.cons _ _
  · exact h

/-- the continuation asks of the frame no more than what is looked up -/
def Respects (C : Fr → List HA → Prop) : Prop := ∀ l l' H, FrEq l l' → C l H → C l' H

theorem agrees_eq {l l' : Fr} (h : FrEq l l') {ρ : Operand → Value} (a : Agrees l' ρ) : Agrees l ρ := fun x v e => a x v (by rw [← get_eq h x]; exact e)

theorem Body.eq {e : EG} {l l' : Fr} {H : List HA} {next next' : Value → List HA → Prop} (h : FrEq l l') (hn : ∀ v H', next v H' → next' v H') (b : Body P F e l H next) : Body P F e l' H next' := by
  unfold Body at b ⊢
  split at b
  · rename_i hc; rw [if_pos hc]
    obtain ⟨v, c, n⟩ := b
    exact ⟨v, fun w ρ a f => c w ρ (agrees_eq h a) f, hn _ _ n⟩
  · rename_i hc; rw [if_neg hc]
    split at b
    · rename_i hf; rw [if_pos hf]
      obtain ⟨mk, o, c, n⟩ := b
      exact ⟨mk, o, fun ρ a => c ρ (agrees_eq h a), fun b => hn _ _ (n b)⟩
    · rename_i hf; rw [if_neg hf]
      obtain ⟨R, c, n⟩ := b
      exact ⟨R, fun F' ex w hh ρ a q f => c F' ex w hh ρ (agrees_eq h a) q f, fun v H' r => hn _ _ (n v H' r)⟩

theorem Ops.eq {es : List EG} : ∀ {l l' : Fr} {H : List HA} {C C' : Fr → List HA → Prop}, (∀ l l' H, FrEq l l' → C l H → C' l' H) → FrEq l l' → Ops P F es l H C → Ops P F es l' H C' := by
  induction es with
  | nil => intro l l' H C C' hC he o; exact hC _ _ _ he o
  | cons e es ih =>
    intro l l' H C C' hC he o
    have step : ∀ {H'}, Body P F e l H' (fun v H2 => Ops P F es (e.put l v) H2 C) → Body P F e l' H' (fun v H2 => Ops P F es (e.put l' v) H2 C') :=
      Body.eq he (fun v H2 => ih hC (he.put e v))
    simp only [Ops] at o ⊢
    split at o
    · exact step o
    · rename_i s want _
      obtain ⟨v, hl, h1, h2⟩ := o
      exact ⟨v, by rw [← he s]; exact hl, fun x => step (h1 x), fun x => ih hC (he.put e undef) (h2 x)⟩

theorem Segs.eq : ∀ {segs : List (List EG)} {F : Hp} {l l' : Fr} {H : List HA} {C C' : Fr → List HA → Prop}, (∀ l l' H, FrEq l l' → C l H → C' l' H) → FrEq l l' → Segs P F segs l H C → Segs P F segs l' H C' := by
  intro segs
  induction segs with
  | nil => intro F l l' H C C' hC he o; exact hC _ _ _ he o
  | cons s segs ih =>
    intro F l l' H C C' hC he o
    rcases o with o | ⟨S, M, tk, body⟩
    · exact .inl (Ops.eq (fun l l' M' he' x => ih hC he' x) he o)
    · exact .inr ⟨S, M, tk, fun F' e k => Ops.eq (fun l l' M' he' x => ih hC he' x) he (body F' e k)⟩

/-- p may change places with q behind it -/
def indep (p q : EG) : Bool :=
  (match p.dst with
   | some d => !(q.op.args.any fun | .tmp t => t == d | _ => false) && !(q.guard.any (·.1 == d)) && !(q.dst == some d)
   | none => true) &&
  (match q.dst with
   | some d => !(p.op.args.any fun | .tmp t => t == d | _ => false) && !(p.guard.any (·.1 == d))
   | none => true)

theorem get_put {e : EG} {l : Fr} {v : Value} {x : Operand} (h : ∀ d, e.dst = some d → x ≠ .tmp d) : get (e.put l v) x = get l x := by
  unfold EG.put
  split
  · rename_i d hd
    cases x with
    | tmp t =>
      have : d ≠ t := fun e => h d hd (by rw [e])
      simp only [get, look_cons, if_neg this]
    | _ => rfl
  · rfl

theorem look_put {e : EG} {l : Fr} {v : Value} {t : Nat} (h : e.dst ≠ some t) : look (e.put l v) t = look l t := by
  unfold EG.put
  split
  · rename_i d hd
    have : d ≠ t := fun x => h (by rw [hd, x])
    rw [look_cons, if_neg this]
  · rfl

theorem put_swap {p q : EG} {l : Fr} {v u : Value} (h : ∀ d, p.dst = some d → q.dst ≠ some d) : FrEq (q.put (p.put l v) u) (p.put (q.put l u) v) := by
  intro t
  by_cases hp : p.dst = some t
  · have hq : q.dst ≠ some t := h t hp
    rw [look_put hq]
    simp [EG.put, hp, look_cons]
  · rw [look_put (e := p) hp]
    by_cases hq : q.dst = some t
    · simp [EG.put, hq, look_cons]
    · rw [look_put hq, look_put hq, look_put hp]

structure Indep (p q : EG) : Prop where
  args_q : ∀ d, p.dst = some d → ∀ x ∈ q.op.args, x ≠ .tmp d
  guard_q : ∀ s w, q.guard = some (s, w) → p.dst ≠ some s
  dst : ∀ d, p.dst = some d → q.dst ≠ some d
  args_p : ∀ d, q.dst = some d → ∀ x ∈ p.op.args, x ≠ .tmp d
  guard_p : ∀ s w, p.guard = some (s, w) → q.dst ≠ some s

theorem indep_sound {p q : EG} (h : indep p q = true) : Indep p q := by
  unfold indep at h
  rw [Bool.and_eq_true] at h
  obtain ⟨h1, h2⟩ := h
  constructor
  · intro d hd x hx e
    subst e
    rw [hd] at h1
    simp only [Bool.and_eq_true, Bool.not_eq_true'] at h1
    have := h1.1.1
    rw [List.any_eq_false] at this
    exact this _ hx (by simp)
  · intro s w hg e
    rw [e] at h1
    simp only [Bool.and_eq_true, Bool.not_eq_true'] at h1
    have := h1.1.2
    simp [hg] at this
  · intro d hd e
    rw [hd] at h1
    simp only [Bool.and_eq_true, Bool.not_eq_true'] at h1
    have := h1.2
    simp [e] at this
  · intro d hd x hx e
    subst e
    rw [hd] at h2
    simp only [Bool.and_eq_true, Bool.not_eq_true'] at h2
    have := h2.1
    rw [List.any_eq_false] at this
    exact this _ hx (by simp)
  · intro s w hg e
    rw [e] at h2
    simp only [Bool.and_eq_true, Bool.not_eq_true'] at h2
    have := h2.2
    simp [hg] at this

/-- what is asked of an operation and what stands behind it, with its guard -/
def One (P : Program) (F : Hp) (e : EG) (l : Fr) (H : List HA) (next : Value → List HA → Prop) : Prop :=
  match e.guard with
  | none => Body P F e l H next
  | some (s, want) => ∃ v, look l s = some v ∧ (asB v = some want → Body P F e l H next) ∧ (asB v ≠ some want → next undef H)

theorem Ops.cons_eq {e : EG} {es : List EG} {l : Fr} {H : List HA} {C : Fr → List HA → Prop} : Ops P F (e :: es) l H C = One P F e l H fun v H' => Ops P F es (e.put l v) H' C := by
  rfl

theorem One.mono {e : EG} {l : Fr} {H : List HA} {next next' : Value → List HA → Prop} (hn : ∀ v H', next v H' → next' v H') (o : One P F e l H next) : One P F e l H next' := by
  unfold One at o ⊢
  split at o
  · exact o.mono hn
  · obtain ⟨v, hl, h1, h2⟩ := o
    exact ⟨v, hl, fun x => (h1 x).mono hn, fun x => hn _ _ (h2 x)⟩

theorem One.switch {e : EG} {l l' : Fr} {H : List HA} {next next' : Value → List HA → Prop} (hr : notRaw e.op = true) (hx : ∀ x ∈ e.op.args, get l x = get l' x) (hg : ∀ s w, e.guard = some (s, w) → look l s = look l' s)
    (hn : ∀ v H', next v H' → next' v H') (o : One P F e l H next) : One P F e l' H next' := by
  unfold One at o ⊢
  split at o
  · exact o.switch hr hx hn
  · rename_i s want hgd
    obtain ⟨v, hl, h1, h2⟩ := o
    exact ⟨v, by rw [← hg s want hgd]; exact hl, fun x => (h1 x).switch hr hx hn, fun x => hn _ _ (h2 x)⟩

/-- a calm operation has one value and owns nothing: it commutes with whatever stands behind it -/
theorem One.calm {e : EG} (hc : e.calm = true) {l : Fr} {H : List HA} {next : Value → List HA → Prop} (o : One P F e l H next) :
    ∃ v, next v H ∧ ∀ H' (next' : Value → List HA → Prop), next' v H' → One P F e l H' next' := by
  unfold One at o
  split at o
  · rename_i hg
    unfold Body at o
    rw [if_pos hc] at o
    obtain ⟨v, c, n⟩ := o
    exact ⟨v, n, fun H' next' n' => by unfold One; rw [hg]; simp only [Body, if_pos hc]; exact ⟨v, c, n'⟩⟩
  · rename_i s want hg
    obtain ⟨u, hl, h1, h2⟩ := o
    by_cases hw : asB u = some want
    · have := h1 hw
      unfold Body at this
      rw [if_pos hc] at this
      obtain ⟨v, c, n⟩ := this
      exact ⟨v, n, fun H' next' n' => by unfold One; rw [hg]; exact ⟨u, hl, fun _ => by simp only [Body, if_pos hc]; exact ⟨v, c, n'⟩, fun x => absurd hw x⟩⟩
    · exact ⟨undef, h2 hw, fun H' next' n' => by unfold One; rw [hg]; exact ⟨u, hl, fun x => absurd x hw, fun _ => n'⟩⟩

theorem Ops.swap {p q : EG} {es : List EG} {l : Fr} {H : List HA} {C : Fr → List HA → Prop} (hc : p.calm = true) (hi : Indep p q) (hrp : notRaw p.op = true) (hrq : notRaw q.op = true)
    (hC : Respects C) (o : Ops P F (p :: q :: es) l H C) : Ops P F (q :: p :: es) l H C := by
  rw [Ops.cons_eq] at o ⊢
  obtain ⟨v, hq, hp⟩ := One.calm hc o
  rw [Ops.cons_eq] at hq
  refine One.switch hrq (fun x hx => get_put fun d hd => hi.args_q d hd x hx) (fun s w hg => look_put (hi.guard_q s w hg)) (fun u H' n => ?_) hq
  rw [Ops.cons_eq]
  have := hp H' (fun v' H2 => Ops P F es (q.put (p.put l v') u) H2 C) n
  refine One.switch hrp (fun x hx => (get_put fun d hd => hi.args_p d hd x hx).symm) (fun s w hg => (look_put (hi.guard_p s w hg)).symm) (fun v' H2 n' => ?_) this
  exact Ops.eq hC (put_swap hi.dst) n'

theorem Ops.mono {es : List EG} : ∀ {l : Fr} {H : List HA} {C C' : Fr → List HA → Prop}, (∀ l H, C l H → C' l H) → Ops P F es l H C → Ops P F es l H C' := by
  induction es with
  | nil => intro l H C C' h o; exact h _ _ o
  | cons e es ih => intro l H C C' h o; rw [Ops.cons_eq] at o ⊢; exact o.mono fun v H' => ih h

/-- an operation is taken to the front -/
theorem Ops.front {q : EG} {post : List EG} : ∀ {pre : List EG} {l : Fr} {H : List HA} {C : Fr → List HA → Prop},
    (∀ p ∈ pre, p.calm = true ∧ Indep p q ∧ notRaw p.op = true ∧ notRaw q.op = true) → Respects C → Ops P F (pre ++ q :: post) l H C → Ops P F (q :: (pre ++ post)) l H C := by
  intro pre
  induction pre with
  | nil => intro l H C _ _ o; exact o
  | cons p pre ih =>
    intro l H C hp hC o
    have ⟨hc, hi, hrp, hrq⟩ := hp p (.head _)
    have o2 : Ops P F (p :: q :: (pre ++ post)) l H C := by
      rw [List.cons_append, Ops.cons_eq] at o
      rw [Ops.cons_eq]
      exact o.mono fun v H' => ih (fun x hx => hp x (.tail _ hx)) hC
    exact Ops.swap hc hi hrp hrq hC o2


theorem pure_calm {op : EOp} (h : pureKind op = true) : calmKind op = true := by cases op <;> first | rfl | (cases h; done) | exact h
theorem calm_notRaw {op : EOp} (h : calmKind op = true) : notRaw op = true := by cases op <;> first | rfl | (cases h; done)

/-- what asks nothing of the world is the same in another -/
theorem pure_move {op : EOp} (hp : pureKind op = true) {ρ : Operand → Value} {v : Value} {w1 w2 : World} (h : op.wp P ρ w1 fun r w' => r = .value v ∧ w' = w1) : op.wp P ρ w2 fun r w' => r = .value v ∧ w' = w2 := by
  cases op <;> first | (simp [pureKind, calmKind] at hp; done) | skip
  case fld x o n => cases n <;> simpa only [EOp.wp, and_true] using h
  case idA x i l s n => cases n <;> simpa only [EOp.wp, and_true] using h
  all_goals simpa only [EOp.wp, and_true] using h

theorem CalmAt.move {op : EOp} (hp : pureKind op = true) {F F2 : Hp} {l : Fr} {v : Value} (hw : ∃ w : World, ∀ b o, F b = some o → w.heap[b]? = some o) (c : CalmAt P F op l v) : CalmAt P F2 op l v := by
  obtain ⟨w1, h1⟩ := hw
  intro w2 ρ a _
  exact pure_move hp (c w1 ρ a h1)

/-- operations that ask nothing of the world come to a frame, whatever is owned -/
theorem Ops.pure_run {L : List EG} : ∀ {F : Hp} {l : Fr} {H : List HA} {C : Fr → List HA → Prop}, (∀ e ∈ L, e.calm = true ∧ pureKind e.op = true) → (∃ w : World, ∀ b o, F b = some o → w.heap[b]? = some o) →
    Ops P F L l H C → ∃ l', C l' H ∧ ∀ F2 H2 C2, C2 l' H2 → Ops P F2 L l H2 C2 := by
  induction L with
  | nil => intro F l H C _ _ o; exact ⟨l, o, fun _ _ _ x => x⟩
  | cons e L ih =>
    intro F l H C hp hw o
    have ⟨hc, hk⟩ := hp e (.head _)
    have hp2 := fun x hx => hp x (List.mem_cons_of_mem _ hx)
    rw [Ops.cons_eq] at o
    unfold One at o
    split at o
    · rename_i hg
      unfold Body at o
      rw [if_pos hc] at o
      obtain ⟨v, c, n⟩ := o
      obtain ⟨l', h1, h2⟩ := ih hp2 hw n
      refine ⟨l', h1, fun F2 H2 C2 x => ?_⟩
      rw [Ops.cons_eq]; unfold One; rw [hg]; simp only [Body, if_pos hc]
      exact ⟨v, c.move hk hw, h2 F2 H2 C2 x⟩
    · rename_i s want hg
      obtain ⟨u, hl, h1, h2⟩ := o
      by_cases hu : asB u = some want
      · have o := h1 hu
        unfold Body at o
        rw [if_pos hc] at o
        obtain ⟨v, c, n⟩ := o
        obtain ⟨l', h3, h4⟩ := ih hp2 hw n
        refine ⟨l', h3, fun F2 H2 C2 x => ?_⟩
        rw [Ops.cons_eq]; unfold One; rw [hg]; simp only [Body, if_pos hc]
        exact ⟨u, hl, fun _ => ⟨v, c.move hk hw, h4 F2 H2 C2 x⟩, fun y => absurd hu y⟩
      · obtain ⟨l', h3, h4⟩ := ih hp2 hw (h2 hu)
        refine ⟨l', h3, fun F2 H2 C2 x => ?_⟩
        rw [Ops.cons_eq]; unfold One; rw [hg]
        exact ⟨u, hl, fun y => absurd y hu, fun _ => h4 F2 H2 C2 x⟩

/-- the continuation asks of what is owned no more than that it is there -/
def Closed (C : Fr → List HA → Prop) : Prop := ∀ l H H', (∀ h, seps H h → seps H' h) → C l H' → C l H

theorem BusyAt.conseq {op : EOp} {l : Fr} {M M' : List HA} {R : Value → List HA → Prop} (e : ∀ h, seps M h → seps M' h) (b : BusyAt P F op l M' R) : BusyAt P F op l M R :=
  fun F' ex w h ρ a q f => b F' ex w h ρ a (e h q) f

theorem Body.conseq {x : EG} {l : Fr} {H H' : List HA} {next : Value → List HA → Prop} (e : ∀ h, seps H h → seps H' h) (hn : ∀ v H H', (∀ h, seps H h → seps H' h) → next v H' → next v H) (b : Body P F x l H' next) : Body P F x l H next := by
  unfold Body at b ⊢
  split at b
  · rename_i hc; rw [if_pos hc]
    obtain ⟨v, c, n⟩ := b
    exact ⟨v, c, hn _ _ _ e n⟩
  · rename_i hc; rw [if_neg hc]
    split at b
    · rename_i hf; rw [if_pos hf]
      obtain ⟨mk, o, c, n⟩ := b
      exact ⟨mk, o, c, fun b => hn _ _ _ (fun h q => seps_cons e q) (n b)⟩
    · rename_i hf; rw [if_neg hf]
      obtain ⟨R, c, n⟩ := b
      exact ⟨R, c.conseq e, n⟩

/-- dropping what is owned, and putting it in another order -/
theorem Ops.conseq {es : List EG} : ∀ {l : Fr} {H H' : List HA} {C : Fr → List HA → Prop}, (∀ h, seps H h → seps H' h) → Closed C → Ops P F es l H' C → Ops P F es l H C := by
  induction es with
  | nil => intro l H H' C e hC o; exact hC _ _ _ e o
  | cons x es ih =>
    intro l H H' C e hC o
    rw [Ops.cons_eq] at o ⊢
    have hn : ∀ v H H', (∀ h, seps H h → seps H' h) → Ops P F es (x.put l v) H' C → Ops P F es (x.put l v) H C := fun v H H' e o => ih e hC o
    unfold One at o ⊢
    split at o
    · exact o.conseq e hn
    · obtain ⟨v, hl, h1, h2⟩ := o
      exact ⟨v, hl, fun y => (h1 y).conseq e hn, fun y => hn _ _ _ e (h2 y)⟩

theorem Segs.conseq : ∀ {segs : List (List EG)} {F : Hp} {l : Fr} {H H' : List HA} {C : Fr → List HA → Prop}, (∀ h, seps H h → seps H' h) → Closed C → Segs P F segs l H' C → Segs P F segs l H C := by
  intro segs
  cases segs with
  | nil => intro F l H H' C e hC o; exact hC _ _ _ e o
  | cons s segs =>
    intro F l H H' C e hC o
    rcases o with o | ⟨S, M, tk, body⟩
    · exact .inl (Ops.conseq e (fun l H H' e o => Segs.conseq e hC o) o)
    · exact .inr ⟨S, M, fun h q => tk h (e h q), body⟩

theorem Post.frame {F' : Hp} {b : Nat} {o : Obj} {x : Hp} {w : World} {R : Value → List HA → Prop} (hx : x b = some o) (hb : ∀ n, x n = none ∨ F' n = none) {r : Next} {w' : World} (po : Post P (join F' x) w R r w') :
    Post P F' w (fun v M' => ∃ M0, M' = .pt b o :: M0 ∧ R v M0) r w' := by
  have key : ∀ {v : Value} {M' : List HA} {h' : Hp} {w2 : World}, R v M' → seps M' h' → Fits (join F' x) h' w2 → Keeps w w2 → ∃ M2 h2, (∃ M0, M2 = .pt b o :: M0 ∧ R v M0) ∧ seps M2 h2 ∧ Fits F' h2 w2 ∧ Keeps w w2 := by
    intro v M' h' w2 r q f k
    have ⟨k2, s2⟩ := f.unsplit hb
    exact ⟨.pt b o :: M', join h' x, ⟨M', rfl, r⟩, ⟨x, h', s2.symm, hx, q⟩, k2, k⟩
  cases r with
  | value v => obtain ⟨M', h', r, q, f, k⟩ := po; exact key r q f k
  | skip => obtain ⟨M', h', r, q, f, k⟩ := po; exact key r q f k
  | enter g args =>
    refine Calls.mono po ?_
    rintro e w2 ⟨v, M', h', he, r, q, f, k⟩
    obtain ⟨M2, h2, a, b, c, d⟩ := key r q f k
    exact ⟨v, M2, h2, he, a, b, c, d⟩
  | _ => exact po.elim

theorem BusyAt.frame {op : EOp} {l : Fr} {M : List HA} {R : Value → List HA → Prop} {b : Nat} {o : Obj} (c : BusyAt P F op l M R) : BusyAt P F op l (.pt b o :: M) fun v M' => ∃ M0, M' = .pt b o :: M0 ∧ R v M0 := by
  intro F' ex w h ρ a ⟨x, y, sp, hx, qy⟩ f
  have hb : ∀ n, x n = none ∨ F' n = none := fun n => (f.dis n).imp sp.none_left id
  exact wp_mono (fun r w' po => Post.frame hx hb po) (c (join F' x) (fun n o e => by simp [join, ex n o e]) w y ρ a qy (f.split sp.symm))

theorem One.frame {e : EG} {l : Fr} {H : List HA} {next : Value → List HA → Prop} {b : Nat} {o : Obj} (one : One P F e l H next) : One P F e l (.pt b o :: H) fun v H' => ∃ H0, (∀ h, seps H' h → seps (.pt b o :: H0) h) ∧ next v H0 := by
  have body : Body P F e l H next → Body P F e l (.pt b o :: H) fun v H' => ∃ H0, (∀ h, seps H' h → seps (.pt b o :: H0) h) ∧ next v H0 := by
    intro bd
    unfold Body at bd ⊢
    split at bd
    · rename_i hc; rw [if_pos hc]
      obtain ⟨v, c, n⟩ := bd
      exact ⟨v, c, H, fun h q => q, n⟩
    · rename_i hc; rw [if_neg hc]
      split at bd
      · rename_i hf; rw [if_pos hf]
        obtain ⟨mk, o2, c, n⟩ := bd
        exact ⟨mk, o2, c, fun b2 => ⟨_, fun h q => seps_swap q, n b2⟩⟩
      · rename_i hf; rw [if_neg hf]
        obtain ⟨R, c, n⟩ := bd
        refine ⟨_, c.frame, ?_⟩
        rintro v H' ⟨M0, rfl, r⟩
        exact ⟨M0, fun h q => q, n v M0 r⟩
  unfold One at one ⊢
  split at one
  · exact body one
  · obtain ⟨v, hl, h1, h2⟩ := one
    exact ⟨v, hl, fun y => body (h1 y), fun y => ⟨H, fun h q => q, h2 y⟩⟩

def ofFr (l : Fr) (x : Operand) : Value := (get l x).getD undef
theorem ofFr_agrees (l : Fr) : Agrees l (ofFr l) := fun x v e => by simp [ofFr, e]

theorem One.fresh {q : EG} {l : Fr} {H : List HA} {next : Value → List HA → Prop} (hq : freshKind q.op = true) (hqc : q.calm = false) (hqg : q.guard = none) : One P F q l H next ↔ ∃ mk o, FreshAt q.op l mk o ∧ ∀ b, next (mk b) (.pt b o :: H) := by
  unfold One
  rw [hqg]
  simp only [Body, hqc, Bool.false_eq_true, if_false, hq, if_true]

/-- an operation that lays a block is done ahead of one that stands ahead of it -/
theorem Ops.swapF {p q : EG} {es : List EG} {l : Fr} {H : List HA} {C : Fr → List HA → Prop} {mk : Nat → Value} {o : Obj} (hq : freshKind q.op = true) (hqc : q.calm = false) (hqg : q.guard = none) (hi : Indep p q) (hrp : notRaw p.op = true)
    (hC : Respects C) (hCl : Closed C) (hf : FreshAt q.op l mk o) (op : Ops P F (p :: q :: es) l H C) : Ops P F (q :: p :: es) l H C := by
  rw [Ops.cons_eq, One.fresh hq hqc hqg]
  refine ⟨mk, o, hf, fun b => ?_⟩
  rw [Ops.cons_eq] at op ⊢
  refine One.switch hrp (fun x hx => (get_put fun d hd => hi.args_p d hd x hx).symm) (fun s w hg => (look_put (hi.guard_p s w hg)).symm) (fun v H' n => ?_) (One.frame (b := b) (o := o) op)
  obtain ⟨H0, e, n⟩ := n
  rw [Ops.cons_eq, One.fresh hq hqc hqg] at n
  obtain ⟨mk', o', hf', nb⟩ := n
  have hargs : ∀ x ∈ q.op.args, get (p.put l v) x = get l x := fun x hx => get_put fun d hd => hi.args_q d hd x hx
  have h1 := (hf'.switch hargs) (ofFr l) (ofFr_agrees l)
  have h2 := hf (ofFr l) (ofFr_agrees l)
  rw [h1] at h2
  cases h2
  exact Ops.eq hC (put_swap hi.dst) (Ops.conseq e hCl (nb b))

theorem Ops.front_fresh {q : EG} {post : List EG} (hq : freshKind q.op = true) (hqc : q.calm = false) (hqg : q.guard = none) {mk : Nat → Value} {o : Obj} : ∀ {pre : List EG} {l : Fr} {H : List HA} {C : Fr → List HA → Prop},
    (∀ p ∈ pre, Indep p q ∧ notRaw p.op = true) → Respects C → Closed C → FreshAt q.op l mk o → Ops P F (pre ++ q :: post) l H C → Ops P F (q :: (pre ++ post)) l H C := by
  intro pre
  induction pre with
  | nil => intro l H C _ _ _ _ o; exact o
  | cons p pre ih =>
    intro l H C hp hC hCl hf op
    have ⟨hi, hrp⟩ := hp p (.head _)
    have o2 : Ops P F (p :: q :: (pre ++ post)) l H C := by
      rw [List.cons_append, Ops.cons_eq] at op
      rw [Ops.cons_eq]
      exact op.mono fun v H' => ih (fun x hx => hp x (.tail _ hx)) hC hCl (hf.switch fun x hx => (get_put fun d hd => hi.args_q d hd x hx).symm)
    exact Ops.swapF hq hqc hqg hi hrp hC hCl hf o2

/-- an operation comes to an end -/
theorem One.out {e : EG} {l : Fr} {H : List HA} {next : Value → List HA → Prop} (hcomp : ∃ o T, compileOp P o T = some e.op) (one : One P F e l H next) (hw : ∃ w h, seps H h ∧ Fits F h w) : ∃ v H', next v H' ∧ ∃ w h, seps H' h ∧ Fits F h w := by
  obtain ⟨w, h, q, f⟩ := hw
  have body : Body P F e l H next → ∃ v H', next v H' ∧ ∃ w h, seps H' h ∧ Fits F h w := by
    intro bd
    unfold Body at bd
    split at bd
    · obtain ⟨v, c, n⟩ := bd; exact ⟨v, H, n, w, h, q, f⟩
    · split at bd
      · obtain ⟨mk, o, c, n⟩ := bd
        exact ⟨_, _, n w.heap.size, _, _, seps_new o q f.fresh.1, f.new o⟩
      · obtain ⟨R, c, n⟩ := bd
        obtain ⟨o, T, hc⟩ := hcomp
        obtain ⟨r, w', _, po⟩ := compile_does (ρ := ofFr l) (fun _ => rfl) (fun _ => rfl) hc (c F (Ext.refl F) w h (ofFr l) (ofFr_agrees l) q f)
        cases r with
        | value v => obtain ⟨M', h', r, q', f', _⟩ := po; exact ⟨v, M', n _ _ r, w', h', q', f'⟩
        | skip => obtain ⟨M', h', r, q', f', _⟩ := po; exact ⟨undef, M', n _ _ r, w', h', q', f'⟩
        | enter g args =>
          obtain ⟨e', w2, fr, ⟨v, M', h', he, r, q', f', _⟩, _⟩ := po []
          exact ⟨v, M', n _ _ r, w2, h', q', f'⟩
        | _ => exact po.elim
  unfold One at one
  split at one
  · exact body one
  · rename_i s want _
    obtain ⟨v, hl, h1, h2⟩ := one
    by_cases hb : asB v = some want
    · exact body (h1 hb)
    · exact ⟨undef, H, h2 hb, w, h, q, f⟩

/-- what a new block will hold is known ahead -/
theorem Ops.reach {q : EG} {post : List EG} (hq : freshKind q.op = true) (hqc : q.calm = false) (hqg : q.guard = none) : ∀ {pre : List EG} {l : Fr} {H : List HA} {C : Fr → List HA → Prop},
    (∀ p ∈ pre, Indep p q ∧ ∃ o T, compileOp P o T = some p.op) → (∃ w h, seps H h ∧ Fits F h w) → Ops P F (pre ++ q :: post) l H C → ∃ mk o, FreshAt q.op l mk o := by
  intro pre
  induction pre with
  | nil =>
    intro l H C _ _ op
    rw [List.nil_append, Ops.cons_eq, One.fresh hq hqc hqg] at op
    obtain ⟨mk, o, hf, _⟩ := op
    exact ⟨mk, o, hf⟩
  | cons p pre ih =>
    intro l H C hp hw op
    have ⟨hi, hcomp⟩ := hp p (.head _)
    rw [List.cons_append, Ops.cons_eq] at op
    obtain ⟨v, H', n, hw'⟩ := op.out hcomp hw
    obtain ⟨mk, o, hf⟩ := ih (fun x hx => hp x (.tail _ hx)) hw' n
    exact ⟨mk, o, hf.switch fun x hx => get_put fun d hd => hi.args_q d hd x hx⟩

theorem Ops.front2 {q : EG} {post pre : List EG} {l : Fr} {H : List HA} {C : Fr → List HA → Prop}
    (hp : ∀ p ∈ pre, (Indep p q ∧ notRaw p.op = true ∧ notRaw q.op = true) ∧ (p.calm = true ∨ (freshKind q.op = true ∧ q.calm = false ∧ q.guard = none)) ∧ ∃ o T, compileOp P o T = some p.op) (hC : Respects C) (hCl : Closed C)
    (hw : ∃ w h, seps H h ∧ Fits F h w) (op : Ops P F (pre ++ q :: post) l H C) : Ops P F (q :: (pre ++ post)) l H C := by
  by_cases hf : freshKind q.op = true ∧ q.calm = false ∧ q.guard = none
  · obtain ⟨h1, h2, h3⟩ := hf
    obtain ⟨mk, o, hf⟩ := Ops.reach h1 h2 h3 (fun p hm => ⟨(hp p hm).1.1, (hp p hm).2.2⟩) hw op
    exact Ops.front_fresh h1 h2 h3 (fun p hm => ⟨(hp p hm).1.1, (hp p hm).1.2.1⟩) hC hCl hf op
  · refine Ops.front (fun p hm => ⟨?_, (hp p hm).1.1, (hp p hm).1.2.1, (hp p hm).1.2.2⟩) hC op
    rcases (hp p hm).2.1 with h | h
    · exact h
    · exact absurd h hf

theorem Ops.append {L1 L2 : List EG} : ∀ {l : Fr} {H : List HA} {C : Fr → List HA → Prop}, Ops P F (L1 ++ L2) l H C ↔ Ops P F L1 l H fun l' H' => Ops P F L2 l' H' C := by
  induction L1 with
  | nil => intro l H C; exact Iff.rfl
  | cons e L1 ih =>
    intro l H C
    rw [List.cons_append, Ops.cons_eq, Ops.cons_eq]
    exact ⟨fun o => o.mono fun v H' => ih.1, fun o => o.mono fun v H' => ih.2⟩
end
end Eng
end Go.Proofs.YtnfomoeicgdkkaaGreatDoor

/- Regions that draw their order: the machine's side. -/
set_option linter.unusedSimpArgs false
set_option linter.unusedVariables false
namespace Go.Proofs.YtnfomoeicgdkkaaGreatDoor
namespace Eng

section
variable {P : Program} {f : FuncId} {K : List Item} {Z : Ending → World → Prop}

/-- an operation of a region is what an EG says -/
def From (P : Program) (n : Nat) (ops : Array Oper) (e : EG) : Prop := ∃ o, ops[e.idx]? = some o ∧ compileG P n ops e.idx o = some { e with calm := false }

theorem From.parts {n : Nat} {ops : Array Oper} {e : EG} (h : From P n ops e) : ∃ o, ops[e.idx]? = some o ∧ compileOp P o.op o.type = some e.op ∧ o.dst = e.dst ∧ (∀ d, e.dst = some d → d < n) ∧
    (match o.guard with
     | none => e.guard = none
     | some (j, want) => ∃ s, (ops[j]?).bind (·.dst) = some s ∧ e.guard = some (s, want)) := by
  obtain ⟨o, ho, hc⟩ := h
  unfold compileG at hc
  split at hc
  · cases hc
  · rename_i op hop
    split at hc
    · rename_i hd
      split at hc
      · rename_i hg
        simp only [Option.some.injEq, EG.mk.injEq] at hc
        refine ⟨o, ho, by rw [hop, hc.2.2.2.2], hc.2.1, fun d e' => ?_, by rw [hg]; exact hc.2.2.1.symm⟩
        rw [← hc.2.1] at e'; rw [e'] at hd; simpa [dstOk] using hd
      · rename_i j want hg
        split at hc
        · rename_i s hs
          simp only [Option.some.injEq, EG.mk.injEq] at hc
          refine ⟨o, ho, by rw [hop, hc.2.2.2.2], hc.2.1, fun d e' => ?_, by rw [hg]; exact ⟨s, hs, hc.2.2.1.symm⟩⟩
          rw [← hc.2.1] at e'; rw [e'] at hd; simpa [dstOk] using hd
        · cases hc
    · cases hc

theorem FrOk.putE {n : Nat} {l : Fr} {a : Act} (h : FrOk n l a) {e : EG} (hd : ∀ d, e.dst = some d → d < n) (v : Value) : FrOk n (e.put l v) (a.put e.dst v) := by
  unfold EG.put
  cases he : e.dst with
  | none => exact h
  | some d => exact h.put (hd d he) v

theorem one_goes {F : Hp} {n : Nat} {ops : Array Oper} {e : EG} {l : Fr} {H : List HA} {next : Value → List HA → Prop} {rest : List Nat} {a : Act} {w : World} {h : Hp} (hfrom : From P n ops e)
    (o : One P F e l H next) (fa : FrOk n l a) (q : seps H h) (fw : Fits F h w)
    (hn : ∀ v H' a' w' h', next v H' → FrOk n (e.put l v) a' → seps H' h' → Fits F h' w' → Keeps w w' → Goes P f (.inRegion ops rest :: K) a' w' Z) :
    Goes P f (.inRegion ops (e.idx :: rest) :: K) a w Z := by
  obtain ⟨op, ho, hop, hdst, hd, hg⟩ := hfrom.parts
  have body : Region.wanted op (yielded ops a.tmps) = true → Body P F e l H next → Goes P f (.inRegion ops (e.idx :: rest) :: K) a w Z := by
    intro hw b
    have hρ : ∀ g, a.eval (.func g) = .func (.func g) #[] #[] := fun _ => rfl
    have hcst : ∀ v, a.eval (.const v) = v := fun _ => rfl
    unfold Body at b
    split at b
    · obtain ⟨v, c, nx⟩ := b
      obtain ⟨r, w', hr, e1, e2⟩ := compile_does hρ hcst hop (c w a.eval fa.agrees fw.frm)
      subst e1; subst e2
      exact Goes.op_value ho hw (hr op.dst op.pos op.after op.guard) (hn v H _ _ h nx (by rw [hdst]; exact fa.putE hd v) q fw (Keeps.refl _))
    split at b
    · obtain ⟨mk, o, c, nx⟩ := b
      obtain ⟨r, w', hr, e1, e2⟩ := compile_does hρ hcst hop (wp_fresh (c a.eval fa.agrees) (Q := fun r w' => r = .value (mk w.heap.size) ∧ w' = newBlk w o) ⟨rfl, rfl⟩)
      subst e1; subst e2
      exact Goes.op_value ho hw (hr op.dst op.pos op.after op.guard) (hn _ _ _ _ _ (nx w.heap.size) (by rw [hdst]; exact fa.putE hd _) (seps_new o q fw.fresh.1) (fw.new o) (Keeps.newBlk w o))
    · obtain ⟨R, c, nx⟩ := b
      obtain ⟨r, w', hr, po⟩ := compile_does hρ hcst hop (c F (Ext.refl F) w h a.eval fa.agrees q fw)
      have hrun := hr op.dst op.pos op.after op.guard
      cases r with
      | value v =>
        obtain ⟨M', h', r, q', f', k⟩ := po
        exact Goes.op_value ho hw hrun (hn v M' _ _ h' (nx _ _ r) (by rw [hdst]; exact fa.putE hd v) q' f' k)
      | skip =>
        obtain ⟨M', h', r, q', f', k⟩ := po
        exact Goes.op_done ho hw hrun (hn undef M' _ _ h' (nx _ _ r) (by rw [hdst]; exact fa.putE hd undef) q' f' k)
      | enter g args =>
        refine Goes.op_call ho hw hrun (Calls.mono po ?_)
        rintro e' w2 ⟨v, M', h', he, r, q', f', k⟩
        exact ⟨v, he, hn v M' _ _ h' (nx _ _ r) (by rw [hdst]; exact fa.putE hd v) q' f' k⟩
      | _ => exact po.elim
  unfold One at o
  cases hgo : op.guard with
  | none =>
    rw [hgo] at hg
    simp only at hg
    rw [hg] at o
    exact body (by simp [Region.wanted, hgo]) o
  | some jw =>
    obtain ⟨j, want⟩ := jw
    rw [hgo] at hg
    obtain ⟨s, hs, hge⟩ := hg
    rw [hge] at o
    obtain ⟨v, hl, h1, h2⟩ := o
    have hy : yielded ops a.tmps j = asB v := by
      unfold yielded
      rw [hs]
      simp only [Option.bind_some, fa.has s v hl]
      cases v <;> rfl
    by_cases hw : asB v = some want
    · exact body (by simp [Region.wanted, hgo, hy, hw]) (h1 hw)
    · have hwf : Region.wanted op (yielded ops a.tmps) = false := by simp [Region.wanted, hgo, hy, hw]
      exact Goes.op_skip ho hwf (hn undef H _ _ h (h2 hw) (by rw [hdst]; exact fa.putE hd undef) q fw (Keeps.refl _))

/-- the text's own order -/
theorem text_goes {F : Hp} {n : Nat} {ops : Array Oper} {C : Fr → List HA → Prop} {w0 : World}
    (hC : ∀ l H a w h, C l H → FrOk n l a → seps H h → Fits F h w → Keeps w0 w → Goes P f K a w Z) :
    ∀ (es : List EG) (l : Fr) (H : List HA) (a : Act) (w : World) (h : Hp), (∀ e ∈ es, From P n ops e) → Ops P F es l H C → FrOk n l a → seps H h → Fits F h w → Keeps w0 w →
      Goes P f (.inRegion ops (es.map (·.idx)) :: K) a w Z := by
  intro es
  induction es with
  | nil => intro l H a w h _ o fa q fw k; exact Goes.region_end (hC _ _ _ _ _ o fa q fw k)
  | cons e es ih =>
    intro l H a w h hf o fa q fw k
    rw [Ops.cons_eq] at o
    exact one_goes (hf e (.head _)) o fa q fw fun v H' a' w' h' nx fa' q' fw' k' => ih _ _ _ _ _ (fun x hx => hf x (.tail _ hx)) nx fa' q' fw' (k.trans k')

open Region in
theorem go_acc (ops : Array Oper) : ∀ (fuel t : Nat) (listed : Array Bool) (acc : List Nat), linearise.go .any ops fuel t listed acc = acc.reverse ++ linearise.go .any ops fuel t listed [] := by
  intro fuel
  induction fuel with
  | zero => intro t listed acc; simp [linearise.go]
  | succ fuel ih =>
    intro t listed acc
    simp only [linearise.go]
    split
    · rename_i i hi; rw [ih, ih _ _ [i]]; simp
    · simp

/-- may be listed next -/
def ready (ops : Array Oper) (listed : Array Bool) (i : Nat) : Bool := !listed.getD i true && ((ops[i]?).map (·.after.all fun e => !Region.binds .any e || listed.getD e.on false)).getD false

open Region in
theorem go_step (ops : Array Oper) (fuel t : Nat) (listed : Array Bool) (j : Nat) (hj : j < ops.size) (hr : ready ops listed j = true) :
    ∃ i t', ready ops listed i = true ∧ i < ops.size ∧ linearise.go .any ops (fuel + 1) t listed [] = i :: linearise.go .any ops fuel t' (listed.setIfInBounds i true) [] := by
  have hmem : j ∈ (List.range ops.size).filter (ready ops listed) := by simp [hj, hr]
  have hpos : 0 < ((List.range ops.size).filter (ready ops listed)).length := List.length_pos_of_mem hmem
  have hlt : t % ((List.range ops.size).filter (ready ops listed)).length < ((List.range ops.size).filter (ready ops listed)).length := Nat.mod_lt _ hpos
  have hget := List.getElem?_eq_getElem hlt
  have hi := List.getElem_mem hlt
  rw [List.mem_filter, List.mem_range] at hi
  refine ⟨_, t / ((List.range ops.size).filter (ready ops listed)).length, hi.2, hi.1, ?_⟩
  have hdef : linearise.go .any ops (fuel + 1) t listed [] = match ((List.range ops.size).filter (ready ops listed))[t % ((List.range ops.size).filter (ready ops listed)).length]? with
      | some i => linearise.go .any ops fuel (t / ((List.range ops.size).filter (ready ops listed)).length) (listed.setIfInBounds i true) [i]
      | none => [] := rfl
  rw [hdef, hget]
  simp only
  rw [go_acc]; rfl

def edgesOf (ops : Array Oper) (i : Nat) : List Nat := ((ops[i]?).map edges).getD []

theorem ready_iff {ops : Array Oper} {listed : Array Bool} {i : Nat} (hi : i < ops.size) :
    ready ops listed i = true ↔ listed.getD i true = false ∧ ∀ x ∈ edgesOf ops i, listed.getD x false = true := by
  have hoi : ops[i]? = some ops[i] := Array.getElem?_eq_getElem hi
  unfold ready edgesOf
  rw [hoi]
  simp only [Option.map_some, Option.getD_some, Bool.and_eq_true, Bool.not_eq_true']
  constructor
  · rintro ⟨h1, h2⟩
    refine ⟨h1, fun x hx => ?_⟩
    unfold edges at hx
    rw [List.mem_map] at hx
    obtain ⟨e, he, rfl⟩ := hx
    rw [List.mem_filter] at he
    have hm : e ∈ ops[i].after := by simpa using he.1
    have := (Array.all_eq_true_iff_forall_mem.1 h2) e hm
    simpa [he.2] using this
  · rintro ⟨h1, h2⟩
    refine ⟨h1, Array.all_eq_true_iff_forall_mem.2 fun e hm => ?_⟩
    by_cases hb : Region.binds .any e = true
    · have := h2 e.on (by unfold edges; rw [List.mem_map]; exact ⟨e, List.mem_filter.2 ⟨by simpa using hm, hb⟩, rfl⟩)
      simp [hb, this]
    · simp [hb]

theorem testBit_fold (g : Nat → Nat) (x : Nat) : ∀ (l : List Nat) (s : Nat), (l.foldl (fun s e => s ||| (2 ^ e ||| g e)) s).testBit x = true → s.testBit x = true ∨ ∃ e ∈ l, x = e ∨ (g e).testBit x = true := by
  intro l
  induction l with
  | nil => intro s h; exact .inl h
  | cons e l ih =>
    intro s h
    rcases ih _ h with h1 | ⟨e', he, h1⟩
    · rw [Nat.testBit_or, Nat.testBit_or, Nat.testBit_two_pow] at h1
      simp only [Bool.or_eq_true, decide_eq_true_eq] at h1
      rcases h1 with h1 | h1 | h1
      · exact .inl h1
      · exact .inr ⟨e, .head _, .inl h1.symm⟩
      · exact .inr ⟨e, .head _, .inr h1⟩
    · exact .inr ⟨e', .tail _ he, h1⟩

/-- each mask comes of the edges of its operation, and of masks of elder ones -/
theorem masks_sound : ∀ (after : List (List Nat)) (acc : List Nat) (i : Nat), acc.length ≤ i → i < acc.length + after.length → ∀ x, ((masks after acc).getD i 0).testBit x = true →
    ∃ e ∈ after.getD (i - acc.length) [], x = e ∨ (e < i ∧ ((masks after acc).getD e 0).testBit x = true) := by
  intro after
  induction after with
  | nil => intro acc i h1 h2; simp at h2; omega
  | cons es r ih =>
    intro acc i h1 h2 x hx
    have keep : ∀ (after : List (List Nat)) (acc : List Nat) (k : Nat), k < acc.length → (masks after acc).getD k 0 = acc.getD k 0 := by
      intro after
      induction after with
      | nil => intro acc k _; rfl
      | cons es r ih =>
        intro acc k hk
        rw [masks, ih _ _ (by simp; omega)]
        simp [List.getD_eq_getElem?_getD, List.getElem?_append_left hk]
    by_cases hi : i = acc.length
    · subst hi
      rw [masks, keep _ _ _ (by simp)] at hx
      have : (acc ++ [es.foldl (fun s e => s ||| (2 ^ e ||| acc.getD e 0)) 0]).getD acc.length 0 = es.foldl (fun s e => s ||| (2 ^ e ||| acc.getD e 0)) 0 := by
        simp [List.getD_eq_getElem?_getD]
      rw [this] at hx
      rcases testBit_fold _ x es 0 hx with h | ⟨e, he, h⟩
      · simp at h
      · refine ⟨e, by simpa using he, ?_⟩
        rcases h with h | h
        · exact .inl h
        · right
          have hlt : e < acc.length := by
            rcases Nat.lt_or_ge e acc.length with h3 | h3
            · exact h3
            · simp [List.getD_eq_getElem?_getD, List.getElem?_eq_none h3] at h
          refine ⟨hlt, ?_⟩
          rw [masks, keep _ _ _ (by simp; omega)]
          simpa [List.getD_eq_getElem?_getD, List.getElem?_append_left hlt] using h
    · have := ih (acc ++ [es.foldl (fun s e => s ||| (2 ^ e ||| acc.getD e 0)) 0]) i (by simp; omega) (by simp at h2 ⊢; omega) x hx
      obtain ⟨e, he, h⟩ := this
      refine ⟨e, ?_, h⟩
      have h3 : i - acc.length = (i - (acc ++ [es.foldl (fun s e => s ||| (2 ^ e ||| acc.getD e 0)) 0]).length) + 1 := by simp; omega
      rw [h3]; simpa using he
end
end Eng
end Go.Proofs.YtnfomoeicgdkkaaGreatDoor

/- Regions that draw their order: any order comes to what the groups of operations say. -/
set_option linter.unusedSimpArgs false
set_option linter.unusedVariables false
namespace Go.Proofs.YtnfomoeicgdkkaaGreatDoor
namespace Eng

section
variable {P : Program} {f : FuncId} {K : List Item} {Z : Ending → World → Prop}

def msOf (ops : Array Oper) : List Nat := masks (ops.toList.map edges) []

structure Inv (ops : Array Oper) (listed : Array Bool) (pend : List EG) : Prop where
  size : listed.size = ops.size
  iff_ : ∀ i, i < ops.size → (listed.getD i true = false ↔ ∃ e ∈ pend, e.idx = i)
  nodup : (pend.map (·.idx)).Nodup
  lt : ∀ e ∈ pend, e.idx < ops.size
  down : ∀ i, i < ops.size → listed.getD i false = true → ∀ x ∈ edgesOf ops i, listed.getD x false = true
  topo : pend.Pairwise fun p q => q.idx ∉ edgesOf ops p.idx
  self : ∀ e ∈ pend, e.idx ∉ edgesOf ops e.idx

theorem getD_both {listed : Array Bool} {i : Nat} (h : i < listed.size) : listed.getD i true = listed.getD i false := by
  simp [Array.getD, h]

theorem listed_of_mask {ops : Array Oper} {listed : Array Bool} {pend : List EG} (inv : Inv ops listed pend) : ∀ (i : Nat), i < ops.size → ∀ x, ((msOf ops).getD i 0).testBit x = true →
    (∀ y ∈ edgesOf ops i, listed.getD y false = true) → listed.getD x false = true := by
  intro i
  induction i using Nat.strongRecOn with
  | _ i ih =>
    intro hi x hx hl
    obtain ⟨e, he, h⟩ := masks_sound (ops.toList.map edges) [] i (by simp) (by simpa using hi) x hx
    have he' : e ∈ edgesOf ops i := by
      have hoi : ops[i]? = some ops[i] := Array.getElem?_eq_getElem hi
      unfold edgesOf
      rw [hoi]
      simp only [Option.map_some, Option.getD_some]
      simpa [List.getD_eq_getElem?_getD, hi] using he
    rcases h with rfl | ⟨h1, h2⟩
    · exact hl _ he'
    · exact ih e h1 (by omega) x h2 (inv.down e (by omega) (hl e he'))

def Anc (ops : Array Oper) (p q : EG) : Prop := ((msOf ops).getD q.idx 0).testBit p.idx = true

/-- p, which stands ahead of q, is ahead of it in every order, or may be behind it -/
def PairIn (ops : Array Oper) (p q : EG) : Prop := Anc ops p q ∨ ((p.calm = true ∨ (freshKind q.op = true ∧ q.calm = false ∧ q.guard = none)) ∧ Indep p q ∧ notRaw p.op = true ∧ notRaw q.op = true)
def PairOut (ops : Array Oper) (p q : EG) : Prop := Anc ops p q ∨ (p.calm = true ∧ pureKind p.op = true ∧ Indep p q ∧ notRaw p.op = true ∧ notRaw q.op = true)

theorem PairOut.in_ {ops : Array Oper} {p q : EG} (h : PairOut ops p q) : PairIn ops p q := h.imp id fun ⟨a, _, b⟩ => ⟨.inl a, b⟩

/-- what is asked of the groups -/
structure GOK (P : Program) (n : Nat) (ops : Array Oper) (segs : List (List EG)) : Prop where
  from_ : ∀ s ∈ segs, ∀ e ∈ s, From P n ops e
  pairs : ∀ s ∈ segs, s.Pairwise (PairIn ops)
  later : segs.Pairwise fun s r => ∀ p ∈ s, ∀ q ∈ r, PairOut ops p q

theorem head_ready {ops : Array Oper} (hr : ∀ i, ∀ x ∈ edgesOf ops i, x < ops.size) {listed : Array Bool} {p : EG} {pend : List EG} (inv : Inv ops listed (p :: pend)) :
    ready ops listed p.idx = true := by
  have hi := inv.lt p (.head _)
  rw [ready_iff hi]
  refine ⟨(inv.iff_ _ hi).2 ⟨p, .head _, rfl⟩, fun x hx => ?_⟩
  have hxs := hr _ x hx
  cases hlx : listed.getD x true with
  | true => rw [← getD_both (by rw [inv.size]; exact hxs)]; exact hlx
  | false =>
    obtain ⟨e, he, e1⟩ := (inv.iff_ x hxs).1 hlx
    cases he with
    | head => subst e1; exact absurd hx (inv.self p (.head _))
    | tail _ he =>
      have := (List.pairwise_cons.1 inv.topo).1 e he
      rw [e1] at this; exact absurd hx this

theorem Inv.step {ops : Array Oper} {listed : Array Bool} {pre post : List EG} {q : EG} (inv : Inv ops listed (pre ++ q :: post)) (hr : ready ops listed q.idx = true) :
    Inv ops (listed.setIfInBounds q.idx true) (pre ++ post) := by
  have hq := inv.lt q (by simp)
  have hrd := (ready_iff hq).1 hr
  have hnd : ∀ e ∈ pre ++ post, e.idx ≠ q.idx := by
    intro e he e1
    have := inv.nodup
    rw [List.map_append, List.map_cons, List.nodup_append] at this
    obtain ⟨n1, n2, n3⟩ := this
    rcases List.mem_append.1 he with h | h
    · exact n3 e.idx (List.mem_map_of_mem h) q.idx (.head _) e1
    · rw [List.nodup_cons] at n2; exact n2.1 (by rw [← e1]; exact List.mem_map_of_mem h)
  have hsub : List.Sublist (pre ++ post) (pre ++ q :: post) := List.Sublist.append_left (List.sublist_cons_self q post) pre
  have gset : ∀ (x : Nat) (b : Bool), x < ops.size → (listed.setIfInBounds q.idx true).getD x b = if q.idx = x then true else listed.getD x b := by
    intro x b hx
    have h1 : x < listed.size := by rw [inv.size]; exact hx
    simp only [Array.getD, Array.size_setIfInBounds, h1, dif_pos]
    simp only [Array.getInternal_eq_getElem, Array.getElem_setIfInBounds]
    split <;> simp_all
  refine ⟨by simp [inv.size], fun i hi => ?_, ?_, fun e he => inv.lt e (hsub.subset he), fun i hi hl x hx => ?_, inv.topo.sublist hsub, fun e he => inv.self e (hsub.subset he)⟩
  · rw [gset i true hi]
    by_cases e1 : q.idx = i
    · rw [if_pos e1]
      constructor
      · intro h; cases h
      · rintro ⟨e, he, e2⟩; exact absurd (e2.trans e1.symm) (hnd e he)
    · rw [if_neg e1, inv.iff_ i hi]
      constructor
      · rintro ⟨e, he, e2⟩
        refine ⟨e, ?_, e2⟩
        rw [List.mem_append, List.mem_cons] at he
        rw [List.mem_append]
        rcases he with h | h | h
        · exact .inl h
        · subst h; exact absurd e2 e1
        · exact .inr h
      · rintro ⟨e, he, e2⟩; exact ⟨e, hsub.subset he, e2⟩
  · exact inv.nodup.sublist (hsub.map _)
  · have hmono : ∀ y, listed.getD y false = true → (listed.setIfInBounds q.idx true).getD y false = true := by
      intro y hy
      by_cases hys : y < ops.size
      · rw [gset y false hys]; split
        · rfl
        · exact hy
      · have : ¬ y < listed.size := by rw [inv.size]; exact hys
        simp [Array.getD, this] at hy
    rw [gset i false hi] at hl
    by_cases e1 : q.idx = i
    · subst e1; exact hmono _ (hrd.2 x hx)
    · rw [if_neg e1] at hl; exact hmono _ (inv.down i hi hl x hx)

theorem Take.frame {F : Hp} {H S M : List HA} (t : ∀ h, seps H h → seps (S ++ M) h) {h : Hp} {w : World} (q : seps H h) (fw : Fits F h w) :
    ∃ F' hm hs, Ext F F' ∧ Known S F' ∧ seps M hm ∧ Fits F' hm w ∧ F' = join F hs ∧ (∀ n, hs n = none ∨ F n = none) ∧ seps S hs := by
  obtain ⟨a, b, sp, qa, qb⟩ := seps_append.1 (t h q)
  have hb : ∀ n, a n = none ∨ F n = none := fun n => (fw.dis n).imp sp.none_left id
  refine ⟨join F a, b, a, fun n o e => by simp [join, e], fun n o m => ?_, qb, fw.split sp.symm, rfl, hb, qa⟩
  have := seps_mem_pt m qa
  rcases hb n with e | e
  · rw [e] at this; cases this
  · simp [join, e, this]

theorem seps_left_mono {S A B : List HA} (e : ∀ h, seps A h → seps B h) : ∀ h, seps (S ++ A) h → seps (S ++ B) h := fun h q => by
  obtain ⟨x, y, sp, qx, qy⟩ := seps_append.1 q
  exact seps_append.2 ⟨x, y, sp, qx, e y qy⟩

/-- all groups, in whatever order -/
theorem all_goes {n : Nat} {ops : Array Oper} (hr : ∀ i, ∀ x ∈ edgesOf ops i, x < ops.size) {F : Hp} {C : Fr → List HA → Prop} {w0 : World} (hresp : Respects C) (hcl : Closed C)
    (hC : ∀ l H a w h, C l H → FrOk n l a → seps H h → Fits F h w → Keeps w0 w → Goes P f K a w Z) :
    ∀ (fuel : Nat) (segs : List (List EG)) (F' : Hp) (S : List HA) (L : List EG) (l : Fr) (M : List HA) (t : Nat) (listed : Array Bool) (a : Act) (w : World) (h : Hp),
      (∀ M' h' w', seps M' h' → Fits F' h' w' → ∃ h2, seps (S ++ M') h2 ∧ Fits F h2 w') →
      (∀ e ∈ L, From P n ops e) → L.Pairwise (PairIn ops) → (∀ s ∈ segs, ∀ p ∈ L, ∀ q ∈ s, PairOut ops p q) → GOK P n ops segs →
      Inv ops listed (L ++ segs.flatten) → (L ++ segs.flatten).length ≤ fuel → Ops P F' L l M (fun l' M' => Segs P F segs l' (S ++ M') C) → FrOk n l a → seps M h → Fits F' h w → Keeps w0 w →
      Goes P f (.inRegion ops (Region.linearise.go .any ops fuel t listed []) :: K) a w Z := by
  intro fuel
  induction fuel with
  | zero =>
    intro segs F' S L l M t listed a w h th _ _ _ _ inv hfu o fa q fw k
    have hnil : L ++ segs.flatten = [] := List.length_eq_zero_iff.1 (by omega)
    have hL : L = [] := (List.append_eq_nil_iff.1 hnil).1
    have hS := (List.append_eq_nil_iff.1 hnil).2
    subst hL
    refine Goes.region_end ?_
    have key : ∀ (segs : List (List EG)) (F' : Hp) (S M : List HA) (h : Hp), segs.flatten = [] → (∀ M' h' w', seps M' h' → Fits F' h' w' → ∃ h2, seps (S ++ M') h2 ∧ Fits F h2 w') → Segs P F segs l (S ++ M) C → seps M h → Fits F' h w →
        ∃ H2 h2, C l H2 ∧ seps H2 h2 ∧ Fits F h2 w := by
      intro segs
      induction segs with
      | nil => intro F' S M h _ th s q fw; obtain ⟨h2, q2, f2⟩ := th M h w q fw; exact ⟨_, h2, s, q2, f2⟩
      | cons s segs ih =>
        intro F' S M h hfl th sg q fw
        have hfl2 : s ++ segs.flatten = [] := by rw [← List.flatten_cons]; exact hfl
        have hs : s = [] := (List.append_eq_nil_iff.1 hfl2).1
        have hfl' : segs.flatten = [] := (List.append_eq_nil_iff.1 hfl2).2
        subst hs
        obtain ⟨h2, q2, f2⟩ := th M h w q fw
        rcases sg with o | ⟨S2, M2, tk, body⟩
        · exact ih F [] (S ++ M) h2 hfl' (fun M' h' w' a b => ⟨h', a, b⟩) o q2 f2
        · obtain ⟨F2, hm, hs, ext, kn, qm, fm, rfl, hdis, qs⟩ := Take.frame tk q2 f2
          refine ih (join F hs) S2 M2 hm hfl' (fun M' h' w' a b => ?_) (body _ ext kn) qm fm
          have ⟨k2, s2⟩ := b.unsplit hdis
          exact ⟨_, seps_append.2 ⟨hs, h', s2.symm, qs, a⟩, k2⟩
    obtain ⟨H2, h2, c, q2, f2⟩ := key segs F' S M h hS th o q fw
    exact hC _ _ _ _ _ c fa q2 f2 k
  | succ fuel ih =>
    -- the groups behind are merged in until the operation that is next is among those at hand
    intro segs
    induction segs with
    | nil =>
      intro F' S L l M t listed a w h th hfrom hpairs hout gok inv hfu o fa q fw k
      cases L with
      | nil =>
        have : Region.linearise.go .any ops (fuel + 1) t listed [] = [] := by
          have hnone : (List.range ops.size).filter (ready ops listed) = [] := by
            rw [List.filter_eq_nil_iff]
            intro i hi hri
            have hilt := List.mem_range.1 hi
            have := ((ready_iff hilt).1 hri).1
            obtain ⟨e, he, _⟩ := (inv.iff_ i hilt).1 this
            cases he
          have hdef : Region.linearise.go .any ops (fuel + 1) t listed [] = match ((List.range ops.size).filter (ready ops listed))[t % ((List.range ops.size).filter (ready ops listed)).length]? with
            | some i => Region.linearise.go .any ops fuel (t / ((List.range ops.size).filter (ready ops listed)).length) (listed.setIfInBounds i true) [i]
            | none => [] := rfl
          rw [hdef, hnone]; rfl
        rw [this]
        obtain ⟨h2, q2, f2⟩ := th M h w q fw
        exact Goes.region_end (hC _ _ _ _ _ o fa q2 f2 k)
      | cons p0 L0 =>
        have hready0 := head_ready hr inv
        have hi0 := inv.lt p0 (by simp)
        obtain ⟨i, t', hri, hilt, hgo⟩ := go_step ops fuel t listed p0.idx hi0 hready0
        rw [hgo]
        have hrdi := (ready_iff hilt).1 hri
        obtain ⟨qe, hqe, hqi⟩ := (inv.iff_ i hilt).1 hrdi.1
        subst hqi
        have hqL : qe ∈ p0 :: L0 := by simpa using hqe
        obtain ⟨pre, post, hsplit⟩ := List.append_of_mem hqL
        have notAhead : ∀ p ∈ p0 :: L0, Anc ops p qe → False := by
          intro p hpm hb
          have hpm' : p ∈ (p0 :: L0) ++ ([] : List (List EG)).flatten := List.mem_append_left _ hpm
          have h1 := listed_of_mask inv qe.idx hilt p.idx hb hrdi.2
          have h2 := (inv.iff_ p.idx (inv.lt p hpm')).2 ⟨p, hpm', rfl⟩
          rw [getD_both (by rw [inv.size]; exact inv.lt p hpm'), h1] at h2
          cases h2
        have hpre : ∀ p ∈ pre, (Indep p qe ∧ notRaw p.op = true ∧ notRaw qe.op = true) ∧ (p.calm = true ∨ (freshKind qe.op = true ∧ qe.calm = false ∧ qe.guard = none)) ∧ ∃ o T, compileOp P o T = some p.op := by
          intro p hpm
          obtain ⟨op, _, hop, _⟩ := (hfrom p (by rw [hsplit]; simp [hpm])).parts
          rw [hsplit, List.pairwise_append] at hpairs
          rcases hpairs.2.2 p hpm qe (.head _) with h1 | h1
          · exact (notAhead p (by rw [hsplit]; simp [hpm]) h1).elim
          · exact ⟨h1.2, h1.1, _, _, hop⟩
        have hsub : List.Sublist (pre ++ post) (p0 :: L0) := by rw [hsplit]; exact List.Sublist.append_left (List.sublist_cons_self qe post) pre
        have ofront : Ops P F' (qe :: (pre ++ post)) l M (fun l' M' => Segs P F [] l' (S ++ M') C) := by
          rw [hsplit] at o
          exact Ops.front2 hpre (fun l l' H e x => hresp _ _ _ e x) (fun l H H' e x => Segs.conseq (segs := []) (seps_left_mono e) hcl x) ⟨w, h, q, fw⟩ o
        rw [Ops.cons_eq] at ofront
        have inv' : Inv ops (listed.setIfInBounds qe.idx true) (pre ++ post ++ ([] : List (List EG)).flatten) := by
          have hinv := inv
          rw [hsplit, List.append_assoc, List.cons_append] at hinv
          have := Inv.step hinv hri
          rw [List.append_assoc]; exact this
        have hlen : (pre ++ post ++ ([] : List (List EG)).flatten).length ≤ fuel := by
          have h1 : (p0 :: L0).length = (pre ++ qe :: post).length := by rw [hsplit]
          simp at h1 hfu ⊢; omega
        refine one_goes (hfrom qe hqL) ofront fa q fw fun v H' a' w' h' nx fa' q' fw' k' => ?_
        exact ih [] F' S (pre ++ post) _ _ t' _ _ _ _ th (fun e he => hfrom e (hsub.subset he)) (hpairs.sublist hsub) (fun s hs => by cases hs) gok inv' hlen nx fa' q' fw' (k.trans k')
    | cons s segs ihs =>
      intro F' S L l M t listed a w h th hfrom hpairs hout gok inv hfu o fa q fw k
      have gok' : GOK P n ops segs := ⟨fun x hx => gok.from_ x (.tail _ hx), fun x hx => gok.pairs x (.tail _ hx), (List.pairwise_cons.1 gok.later).2⟩
      have hfromS := gok.from_ s (.head _)
      have hpairsS := gok.pairs s (.head _)
      have hSlater := (List.pairwise_cons.1 gok.later).1
      -- all at hand ask nothing of the world: the next group joins them
      have merge : (∀ e ∈ L, e.calm = true ∧ pureKind e.op = true) → Goes P f (.inRegion ops (Region.linearise.go .any ops (fuel + 1) t listed []) :: K) a w Z := by
        intro hpure
        obtain ⟨l', sg, back⟩ := Ops.pure_run hpure ⟨w, fw.frm⟩ o
        obtain ⟨h2, q2, f2⟩ := th M h w q fw
        have hpairs' : (L ++ s).Pairwise (PairIn ops) := List.pairwise_append.2 ⟨hpairs, hpairsS, fun p hp q hq => (hout s (.head _) p hp q hq).in_⟩
        have hout' : ∀ s' ∈ segs, ∀ p ∈ L ++ s, ∀ q ∈ s', PairOut ops p q := by
          intro s' hs' p hp q hq
          rcases List.mem_append.1 hp with h1 | h1
          · exact hout s' (.tail _ hs') p h1 q hq
          · exact hSlater s' hs' p h1 q hq
        have hfrom' : ∀ e ∈ L ++ s, From P n ops e := fun e he => by
          rcases List.mem_append.1 he with h1 | h1
          · exact hfrom e h1
          · exact hfromS e h1
        have inv' : Inv ops listed (L ++ s ++ segs.flatten) := by
          rw [List.append_assoc]; simpa using inv
        have hfu' : (L ++ s ++ segs.flatten).length ≤ fuel + 1 := by
          rw [List.append_assoc]; simpa using hfu
        rcases sg with o2 | ⟨S2, M2, tk, body⟩
        · exact ihs F [] (L ++ s) l (S ++ M) t listed a w h2 (fun M' h' w' a b => ⟨h', a, b⟩) hfrom' hpairs' hout' gok' inv' hfu' (Ops.append.2 (back F _ _ o2)) fa q2 f2 k
        · obtain ⟨F2, hm, hs, ext, kn, qm, fm, rfl, hdis, qs⟩ := Take.frame tk q2 f2
          refine ihs (join F hs) S2 (L ++ s) l M2 t listed a w hm (fun M' h' w' a b => ?_) hfrom' hpairs' hout' gok' inv' hfu' (Ops.append.2 (back _ _ _ (body _ ext kn))) fa qm fm k
          have ⟨k2, s2⟩ := b.unsplit hdis
          exact ⟨_, seps_append.2 ⟨hs, h', s2.symm, qs, a⟩, k2⟩
      cases L with
      | nil => exact merge (fun e he => by cases he)
      | cons p0 L0 =>
        have hready0 : ready ops listed p0.idx = true := head_ready hr inv
        have hi0 := inv.lt p0 (by simp)
        obtain ⟨i, t', hri, hilt, hgo⟩ := go_step ops fuel t listed p0.idx hi0 hready0
        have hrdi := (ready_iff hilt).1 hri
        obtain ⟨qe, hqe, hqi⟩ := (inv.iff_ i hilt).1 hrdi.1
        subst hqi
        have notAhead : ∀ p ∈ p0 :: L0, Anc ops p qe → False := by
          intro p hpm hb
          have hpm' : p ∈ (p0 :: L0) ++ (s :: segs).flatten := List.mem_append_left _ hpm
          have h1 := listed_of_mask inv qe.idx hilt p.idx hb hrdi.2
          have h2 := (inv.iff_ p.idx (inv.lt p hpm')).2 ⟨p, hpm', rfl⟩
          rw [getD_both (by rw [inv.size]; exact inv.lt p hpm'), h1] at h2
          cases h2
        by_cases hqL : qe ∈ p0 :: L0
        · obtain ⟨pre, post, hsplit⟩ := List.append_of_mem hqL
          have hpre : ∀ p ∈ pre, (Indep p qe ∧ notRaw p.op = true ∧ notRaw qe.op = true) ∧ (p.calm = true ∨ (freshKind qe.op = true ∧ qe.calm = false ∧ qe.guard = none)) ∧ ∃ o T, compileOp P o T = some p.op := by
            intro p hpm
            obtain ⟨op, _, hop, _⟩ := (hfrom p (by rw [hsplit]; simp [hpm])).parts
            rw [hsplit, List.pairwise_append] at hpairs
            rcases hpairs.2.2 p hpm qe (.head _) with h1 | h1
            · exact (notAhead p (by rw [hsplit]; simp [hpm]) h1).elim
            · exact ⟨h1.2, h1.1, _, _, hop⟩
          have hsub : List.Sublist (pre ++ post) (p0 :: L0) := by rw [hsplit]; exact List.Sublist.append_left (List.sublist_cons_self qe post) pre
          have ofront : Ops P F' (qe :: (pre ++ post)) l M (fun l' M' => Segs P F (s :: segs) l' (S ++ M') C) := by
            rw [hsplit] at o
            exact Ops.front2 hpre (fun l l' H e x => Segs.eq (fun a b c d => hresp a b c d) e x) (fun l H H' e x => Segs.conseq (seps_left_mono e) hcl x) ⟨w, h, q, fw⟩ o
          rw [Ops.cons_eq] at ofront
          have inv' : Inv ops (listed.setIfInBounds qe.idx true) (pre ++ post ++ (s :: segs).flatten) := by
            have hinv := inv
            rw [hsplit, List.append_assoc, List.cons_append] at hinv
            have := Inv.step hinv hri
            rw [List.append_assoc]; exact this
          have hlen : (pre ++ post ++ (s :: segs).flatten).length ≤ fuel := by
            have h1 : (p0 :: L0).length = (pre ++ qe :: post).length := by rw [hsplit]
            simp at h1 hfu ⊢; omega
          rw [hgo]
          refine one_goes (hfrom qe hqL) ofront fa q fw fun v H' a' w' h' nx fa' q' fw' k' => ?_
          exact ih (s :: segs) F' S (pre ++ post) _ _ t' _ _ _ _ th (fun e he => hfrom e (hsub.subset he)) (hpairs.sublist hsub) (fun s' hs' p hp => hout s' hs' p (hsub.subset hp)) gok inv' hlen nx fa' q' fw' (k.trans k')
        · refine merge fun e he => ?_
          have hqr : qe ∈ (s :: segs).flatten := by
            rcases List.mem_append.1 hqe with h1 | h1
            · exact absurd h1 hqL
            · exact h1
          obtain ⟨r, hrm, hqr'⟩ := List.mem_flatten.1 hqr
          rcases hout r hrm e he qe hqr' with h1 | h1
          · exact (notAhead e he h1).elim
          · exact ⟨h1.1, h1.2.1⟩
end
end Eng
end Go.Proofs.YtnfomoeicgdkkaaGreatDoor
