-- Written by wip/tools/pr.py of this session over the kit's print (widened); the words are the kit's print's own. Not trusted: Lean checks it.
import Derived.Test.YtiaodapgankjnaaQx0
import Derived.Test.YtiaodapgankjnaaQx2
import Derived.Test.YtiaodapgankjnaaQx3
namespace Go.Proofs.Ytiaodapgankjnaa.Q
open Go.RowKit Go.Proofs.YtiaodapgankjnaaW.PrintWords Go.Proofs.YtiaodapgankjnaaW.PrintLast Go.Proofs.YtiaodapgankjnaaW.PrintMore
attribute [local go_sem] max2_int min2_int max_two min_two max_three min_three max_four min_four   -- for this text's walks alone
set_option linter.unusedVariables false
set_option linter.unusedSimpArgs false

/-! ### trie_Build: function 9 (by hand) -/
/-- What ranges tell at a place. -/
def gv : List S35 → Int → Int → Int
  | [], d, _ => d
  | r :: t, d, c => if r.f0 ≤ c ∧ c ≤ r.f1 then r.f2 else gv t d c
/-- The 64 values of a piece. -/
def pcs (f : Int → Int) (p : Nat) : List Int := (List.range 64).map fun j => f ((64 * p + j : Nat) : Int)
/-- The blocks of the first n pieces, each once. -/
def bls (f : Int → Int) : Nat → List (List Int)
  | 0 => []
  | n + 1 => if pcs f n ∈ bls f n then bls f n else bls f n ++ [pcs f n]
def mkT (f : Int → Int) (d : Int) : S57 := ⟨d, (List.range 17408).map fun p => (((bls f 17408).idxOf (pcs f p) : Nat) : Int), bls f 17408⟩
def trie_Build.f (k : Nat) (l0 : List S35) (a1 : Int) : Option (List S57 × Int × Int) := (trie_wrong.f k l0 a1).bind fun b => if b.2 = 0 then some ([mkT (gv l0 a1) a1], 0, 0) else some ([], b.1, b.2)
theorem trie_Build.mono : ∀ a0 a1 k, LeO (trie_Build.f k a0 a1) (trie_Build.f (k + 1) a0 a1) := by
  intro a0 a1 k
  unfold trie_Build.f
  exact LeO.bind (trie_wrong.mono _ _ _) (fun _ => LeO.refl _)
set_option maxHeartbeats 8000000
set_option maxRecDepth 100000
/-! ### Of this session: maps keyed by arrays of whole numbers -/
section
variable {P : Program}
theorem run_checkKey_arr {k : IntKind} {t e n : Nat} {i : TypeInfo} (ht : P.underlying t = some (.array n e)) (he : P.underlying e = some (.int k)) (hi : P.info? e = some i) (hc : P.cellsOf e = 1) (em : Bool) (d : Nat) (w : World) (xs : List Int) :
    (Instr.checkKey em (d + 2) t (.agg (arrV k n xs))).run P w = .ok () w := by
  have hp : P.plainKey e = true := by simp [Program.plainKey, he]
  rw [Instr.checkKey]
  simp only [Sem.run_bind, run_underlying ht, Result.andThen_ok]
  simp only [Std.Legacy.Range.forIn_eq_forIn_range', Std.Legacy.Range.size, Nat.sub_zero, Nat.add_one_sub_one, Nat.div_one]
  have each : ∀ j ∈ List.range' 0 n, j < n := fun j hj => by simpa using hj
  generalize List.range' 0 n = is at each
  induction is with
  | nil => simp
  | cons j is ih =>
    have hx : (arrV k n xs)[j * P.cellsOf e]? = some (.int k (xs.getD j 0)) := by simp [arrV, hc, each j (by simp)]
    simp only [List.forIn_cons, Sem.run_bind, run_sizeOf w hi, Result.andThen_ok, run_part_plain (P := P) (w := w) hp hx, Sem.run_pure]
    have h1 : (Instr.checkKey em (d + 1) e (.int k (xs.getD j 0))).run P w = .ok () w := by simp [Instr.checkKey, run_underlying he]
    simp only [h1, Result.andThen_ok]
    exact ih (fun y hy => each y (by simp [hy]))
/-- The entries of a map whose keys came one by one, each with its number. -/
def arrEs (k : IntKind) (n : Nat) (xs : List (List Int)) : Array MapEntry := (xs.zipIdx.map fun p => (⟨.agg (arrV k n p.1), .int k p.2, p.2⟩ : MapEntry)).toArray
theorem run_findAsking_arr {k : IntKind} {t e n : Nat} {i : TypeInfo} (ht : P.underlying t = some (.array n e)) (he : P.underlying e = some (.int k)) (hi : P.info? e = some i) (hc : P.cellsOf e = 1) (w : World) (y : List Int) : ∀ (xs : List (List Int)) (f at_ : Nat),
    (Instr.findAsking t (.agg (arrV k n y)) (xs.zipIdx f |>.map fun p => (⟨.agg (arrV k n p.1), .int k p.2, p.2⟩ : MapEntry)) at_).run P w = .ok ((xs.findIdx? (arrEq n y)).map fun j => (at_ + j, .int k ((f + j : Nat) : Int))) w
  | [], _, _ => by simp [Instr.findAsking]
  | x :: r, f, at_ => by
    simp only [List.zipIdx_cons, List.map_cons, Instr.findAsking, Sem.run_bind]
    have h1 : (Op.equal t (.agg (arrV k n y)) (.agg (arrV k n x))).run P w = .ok (arrEq n y x) w := by
      unfold Op.equal
      exact eqArr ht he hi hc _ w y x
    rw [h1, Result.andThen_ok]
    cases hb : arrEq n y x
    · have ih := run_findAsking_arr ht he hi hc w y r (f + 1) (at_ + 1)
      simp only [Bool.false_eq_true, if_false, ih, List.findIdx?_cons, hb, Option.map_map, Function.comp_def]
      congr 2
      funext j
      rw [Nat.add_right_comm at_ 1 j, Nat.add_right_comm f 1 j]
      rfl
    · simp [List.findIdx?_cons, hb]
theorem run_findKey_arr {k : IntKind} {t e n : Nat} {i : TypeInfo} (ht : P.underlying t = some (.array n e)) (he : P.underlying e = some (.int k)) (hi : P.info? e = some i) (hc : P.cellsOf e = 1) (w : World) (y : List Int) (xs : List (List Int)) :
    (Instr.findKey t (.agg (arrV k n y)) (arrEs k n xs).toList).run P w = .ok ((xs.findIdx? (arrEq n y)).map fun j => (j, .int k (j : Int))) w := by
  rw [run_findKey_eq (P := P) w (by simp [ht])]
  have h := run_findAsking_arr ht he hi hc w y xs 0 0
  simpa [arrEs] using h
theorem run_look_arr {k : IntKind} {m t e e' n : Nat} {i : TypeInfo} (hm : P.underlying m = some (.map t e')) (ht : P.underlying t = some (.array n e)) (he : P.underlying e = some (.int k)) (hi : P.info? e = some i) (hc : P.cellsOf e = 1) (hz : (P.info? e').map (·.zero) = some (some (.int k 0))) (w : World) (b clock : Nat) (y : List Int) (xs : List (List Int)) (hb : w.heap[b]? = some (.map (arrEs k n xs) clock)) :
    (Instr.lookup m (.map (some b)) (.agg (arrV k n y)) true).run P w = .ok (.tuple #[.int k (((xs.findIdx? (arrEq n y)).getD 0 : Nat) : Int), .bool (xs.findIdx? (arrEq n y)).isSome]) w := by
  have h1 := run_findKey_arr ht he hi hc w y xs
  have h2 := run_checkKey_arr ht he hi hc (arrEs k n xs).isEmpty 9998 w y
  have h3 : (zeroValue e').run P w = .ok (.int k 0) w := by
    cases hq : P.info? e' with
    | none => simp [hq] at hz
    | some q => simp [hq] at hz; simp [zeroValue, typeInfo, hq, hz]
  cases hf : xs.findIdx? (arrEq n y) with
  | none => simp [Instr.lookup, run_underlying hm, MapKept.run_getObj_map hb, h2, h1, hf, h3, Result.andThen]
  | some j => simp [Instr.lookup, run_underlying hm, MapKept.run_getObj_map hb, h2, h1, hf, Result.andThen]
theorem arrEs_push (k : IntKind) (n : Nat) (xs : List (List Int)) (y : List Int) : (arrEs k n xs).push ⟨.agg (arrV k n y), .int k (xs.length : Int), xs.length⟩ = arrEs k n (xs ++ [y]) := by
  apply Array.toList_inj.1
  simp [arrEs, List.zipIdx_append]
theorem run_put_arr {k : IntKind} {m t e e' n : Nat} {i : TypeInfo} (hm : P.underlying m = some (.map t e')) (ht : P.underlying t = some (.array n e)) (he : P.underlying e = some (.int k)) (hi : P.info? e = some i) (hc : P.cellsOf e = 1) (w : World) (b : Nat) (y : List Int) (xs : List (List Int)) (hb : w.heap[b]? = some (.map (arrEs k n xs) xs.length)) (hn : xs.findIdx? (arrEq n y) = none) :
    (Instr.mapUpdate m (.map (some b)) (.agg (arrV k n y)) (.int k (xs.length : Int))).run P w = .ok () { w with heap := w.heap.setIfInBounds b (.map (arrEs k n (xs ++ [y])) (xs ++ [y]).length) } := by
  have h1 := run_findKey_arr ht he hi hc w y xs
  have h2 := run_checkKey_arr ht he hi hc false 9998 w y
  simp [Instr.mapUpdate, run_underlying hm, MapKept.run_getObj_map hb, h2, h1, hn, MapKept.run_setObj_map _ hb, Result.andThen, arrEs_push]
end
def Bd (w w' : World) (d : Int) (gt gi gm : Nat) (B : Value) (idx : List Int) (bs ms : List (List Int)) : Prop :=
  w'.heap[gt]? = some (.cells #[.int .i64 d, .slice (some ⟨gi, 0, none⟩) 17408 17408, B] 57 (0, 0)) ∧
  w'.heap[gi]? = some (.cells (arrV .u16 17408 idx) 49 (0, 0)) ∧
  w'.ownsRow w.heap.size 50 64 B bs.length (bs.flatMap (encs (Value.int .u16))) ∧
  w'.heap[gm]? = some (.map (arrEs .u16 64 ms) ms.length) ∧
  Below w.heap.size w w' ∧ w.heap.size ≤ gt ∧ w.heap.size ≤ gi ∧ w.heap.size ≤ gm
section
variable {w W W1 : World} {d : Int} {gt gi gm : Nat} {B : Value} {idx : List Int} {bs ms : List (List Int)}
theorem own_block_of {w : World} {base e size n : Nat} {v : Value} {xs : List Value} (h : w.ownsRow base e size v n xs) {g : Nat} (hg : v.ownBlock = some g) : ∃ cells, w.heap[g]? = some (.cells cells e (0, 0)) := by
  rcases h.2 with ⟨h1, _⟩ | ⟨g', cap, cur, he, hb, hh, _⟩
  · rw [h1] at hg; cases hg
  · rw [he] at hg
    injection hg with hg
    subst hg
    exact ⟨cur, hh⟩
theorem own_far {W W1 : World} {base e size n : Nat} {v : Value} {xs : List Value} (h : W.ownsRow base e size v n xs) (hb : ∀ g, v.ownBlock = some g → W1.heap[g]? = W.heap[g]?) : W1.ownsRow base e size v n xs := by
  obtain ⟨h1, h2⟩ := h
  refine ⟨h1, ?_⟩
  rcases h2 with h2 | ⟨g, cap, cur, rfl, hg, hh, r⟩
  · exact .inl h2
  · exact .inr ⟨g, cap, cur, rfl, hg, (hb g rfl).trans hh, r⟩
theorem Bd_below (h : Bd w W d gt gi gm B idx bs ms) (hb : Below W.heap.size W W1) : Bd w W1 d gt gi gm B idx bs ms := by
  obtain ⟨h1, h2, h3, h4, h5, h6⟩ := h
  refine ⟨(hb.block _ (blk_lt h1)).trans h1, (hb.block _ (blk_lt h2)).trans h2, own_far h3 (fun g hg => ?_), (hb.block _ (blk_lt h4)).trans h4, below_step h5 hb, h6⟩
  obtain ⟨cells, hc⟩ := own_block_of h3 hg
  exact hb.block _ (blk_lt hc)
theorem Bd_t (h : Bd w W d gt gi gm B idx bs ms) : W.cell? ⟨gt, 1, none⟩ = some (.slice (some ⟨gi, 0, none⟩) 17408 17408) ∧ W.cell? ⟨gt, 2, none⟩ = some B := ⟨(blk_cell h.1 1).trans rfl, (blk_cell h.1 2).trans rfl⟩
theorem Bd_i (h : Bd w W d gt gi gm B idx bs ms) (p : Nat) (hp : p < 17408) : W.cell? ⟨gi, p, none⟩ = some (.int .u16 (idx.getD p 0)) ∧ W.frozen? ⟨gi, p, none⟩ = false := by
  refine ⟨(blk_cell h.2.1 p).trans ?_, blk_frozen h.2.1 p⟩
  simp [arrV, hp]
theorem Bd_B (h : Bd w W d gt gi gm B idx bs ms) : ∃ A c, B = .slice A bs.length c := by
  rcases h.2.2.1.2 with ⟨h1, h2⟩ | ⟨g, cap, cur, he, _⟩
  · exact ⟨none, 0, by rw [h1, h2]⟩
  · exact ⟨_, _, he⟩
theorem setCell_row (W : World) (g p : Nat) (v : Value) (cs : Array Value) (t : TypeId) (h : W.heap[g]? = some (.cells cs t (0, 0))) : (W.setCell ⟨g, p, none⟩ v).heap[g]? = some (.cells (cs.setIfInBounds p v) t (0, 0)) := by
  have hg := blk_lt h
  unfold World.setCell
  simp only [Array.getElem?_modify, if_true, h, Option.map_some]
  rfl
theorem Bd_set (h : Bd w W d gt gi gm B idx bs ms) (p : Nat) (v : Int) (hl : idx.length = 17408) : Bd w (W.setCell ⟨gi, p, none⟩ (.int .u16 v)) d gt gi gm B (idx.set p v) bs ms := by
  obtain ⟨h1, h2, h3, h4, h5, h6, h7, h8⟩ := h
  have hne : gt ≠ gi := blk_ne h1 h2 (by decide)
  have hm : gm ≠ gi := fun e => by rw [e, h2] at h4; cases h4
  refine ⟨(Below.heap_setCell W _ _ _ hne).trans h1, ?_, own_far h3 (fun g hg => ?_), (Below.heap_setCell W _ _ _ hm).trans h4, below_set h5 h7, h6, h7, h8⟩
  · rw [setCell_row W gi p _ _ _ h2]
    congr 2
    apply Array.toList_inj.1
    apply List.ext_getElem?
    intro j
    simp only [arrV, Array.toList_setIfInBounds, List.getElem?_set, List.length_map, List.length_range, List.getElem?_map]
    by_cases hj : j < 17408
    · by_cases he : p = j
      · subst he
        simp [hj, List.getElem?_set, hl, hj, List.getD_eq_getElem?_getD]
      · simp [hj, he, List.getElem?_set, List.getD_eq_getElem?_getD]
    · by_cases he : p = j
      · subst he
        simp [hj]
      · simp [hj, he]
  · obtain ⟨cells, hc⟩ := own_block_of h3 hg
    exact Below.heap_setCell W _ _ _ (blk_ne hc h2 (by decide))
theorem Bd_put (h : Bd w W d gt gi gm B idx bs ms) (ms' : List (List Int)) : Bd w { W with heap := W.heap.setIfInBounds gm (Obj.map (arrEs .u16 64 ms') ms'.length) } d gt gi gm B idx bs ms' ∧ ∀ (g : Nat) (cs : Array Value) (t : TypeId), W.heap[g]? = some (Obj.cells cs t (0, 0)) → ({ W with heap := W.heap.setIfInBounds gm (Obj.map (arrEs .u16 64 ms') ms'.length) } : World).heap[g]? = some (Obj.cells cs t (0, 0)) := by
  obtain ⟨h1, h2, h3, h4, h5, h6, h7, h8⟩ := h
  have far : ∀ (g : Nat) (cs : Array Value) (t : TypeId), W.heap[g]? = some (Obj.cells cs t (0, 0)) → ({ W with heap := W.heap.setIfInBounds gm (Obj.map (arrEs .u16 64 ms') ms'.length) } : World).heap[g]? = some (Obj.cells cs t (0, 0)) := by
    intro g cs t hg
    have hne : gm ≠ g := fun e => by rw [e, hg] at h4; cases h4
    simp only [Array.getElem?_setIfInBounds_ne hne]
    exact hg
  refine ⟨⟨far _ _ _ h1, far _ _ _ h2, own_far h3 (fun g hg => ?_), ?_, ?_, h6, h7, h8⟩, far⟩
  · obtain ⟨cells, hc⟩ := own_block_of h3 hg
    rw [far _ _ _ hc, hc]
  · simp [blk_lt h4]
  · refine ⟨h5.os, h5.tape, h5.output, by simpa using h5.size, fun i hi => ?_⟩
    have hne : gm ≠ i := by omega
    simp only [Array.getElem?_setIfInBounds_ne hne]
    exact h5.block i hi
theorem Bd_app (h : Bd w W d gt gi gm B idx bs ms) {B' : Value} {bs' : List (List Int)} (hg : W.grownBy W1 B.ownBlock) (ho : W1.ownsRow w.heap.size 50 64 B' bs'.length (bs'.flatMap (encs (Value.int .u16)))) :
    Bd w (W1.setCell ⟨gt, 2, none⟩ B') d gt gi gm B' idx bs' ms := by
  obtain ⟨h1, h2, h3, h4, h5, h6, h7, h8⟩ := h
  have far : ∀ (g : Nat) (o : Obj), W.heap[g]? = some o → (∀ cs : Array Value, o ≠ Obj.cells cs 50 (0, 0)) → W1.heap[g]? = some o := fun g o hh hne => by
    refine blk_grown hh hg (fun e => ?_)
    obtain ⟨cells, hc⟩ := own_block_of h3 e.symm
    rw [hc] at hh
    injection hh with hh
    exact hne _ hh.symm
  have k1 := far _ _ h1 (fun cs e => by injection e with _ e; cases e)
  have k2 := far _ _ h2 (fun cs e => by injection e with _ e; cases e)
  have k4 := far _ _ h4 (fun cs e => by cases e)
  have hne : gi ≠ gt := blk_ne h2 h1 (by decide)
  have hm : gm ≠ gt := fun e => by rw [e, h1] at h4; cases h4
  have hB : Below w.heap.size w W1 := h5.grown hg h5.size (fun q hq => by
    rcases h3.2 with ⟨e1, _⟩ | ⟨g', cap, cur, he, hb, _⟩
    · rw [e1] at hq; cases hq
    · rw [he] at hq
      have : g' = q := by simpa [Value.ownBlock] using hq
      omega)
  refine ⟨?_, (Below.heap_setCell W1 _ _ _ hne).trans k2, own_far ho (fun g hg => ?_), (Below.heap_setCell W1 _ _ _ hm).trans k4, below_set hB h6, h6, h7, h8⟩
  · rw [setCell_row W1 gt 2 _ _ _ k1]
    rfl
  · obtain ⟨cells, hc⟩ := own_block_of ho hg
    exact Below.heap_setCell W1 _ _ _ (blk_ne hc k1 (by decide))
theorem Bd_app9 {o : Obj} (h : Bd w W d gt gi gm B idx bs ms) (hg : ((W.alloc o).drew).grownBy W1 B.ownBlock) {B' : Value} {y : List Int} {cs : List Value} (hcs : cs = encs (Value.int .u16) y) (ho : W1.ownsRow w.heap.size 50 64 B' (bs.length + 1) (bs.flatMap (encs (Value.int .u16)) ++ cs)) :
    Bd w (W1.setCell ⟨gt, 2, none⟩ B') d gt gi gm B' idx (bs ++ [y]) ms := by
  refine Bd_app (Bd_below h (below_drew (below_alloc (Below.refl _ _) o))) hg ?_
  rw [List.length_append, List.flatMap_append]
  subst hcs
  simpa using ho
theorem reps_flat {w : World} {base : Nat} {ok : Nat → Prop} : ∀ (bs : List (List Int)), (∀ b ∈ bs, b.length = 64) → Reps ((Kd.arr 64 (Kd.int .u16) (by decide)).M w base ok) 64 bs (bs.flatMap (encs (Value.int .u16)))
  | [], _ => ⟨by simp, fun j p h => by simp at h⟩
  | b :: r, h => by
    have hb : b.length = 64 := h b (by simp)
    have he : (encs (Value.int .u16) b).length = 64 := by rw [encs_length, hb]
    obtain ⟨h1, h2⟩ := reps_flat r (fun q hq => h q (by simp [hq]))
    refine ⟨by rw [List.flatMap_cons, List.length_append, he, h1, List.length_cons]; omega, fun j p hj => ?_⟩
    rw [List.flatMap_cons]
    cases j with
    | zero =>
      have hp : b = p := by simpa using hj
      subst hp
      rw [Nat.zero_mul, List.drop_zero, List.take_append_of_le_length (by omega), List.take_of_length_le (by omega)]
      exact Kd.arr_of_cells hb
    | succ j =>
      have h3 := h2 j p (by simpa using hj)
      rw [show (j + 1) * 64 = (encs (Value.int .u16) b).length + j * 64 by rw [he]; omega, ← List.drop_drop, List.drop_left]
      exact h3
theorem Bd_P (h : Bd w W d gt gi gm B idx bs ms) {f : Int → Int} (hi : idx = (mkT f d).f1) (hb : bs = (mkT f d).f2) (hl : ∀ b ∈ bs, b.length = 64) : Kd.P k57 57 W w.heap.size (fun _ => True) (.pointer (some ⟨gt, 0, none⟩)) [mkT f d] := by
  obtain ⟨h1, h2, h3, h4, h5, h6, h7, h8⟩ := h
  have hgi : gi ≠ gt := blk_ne h2 h1 (by decide)
  refine ⟨_, 1, rfl, (fun e => (by cases e)), (fun k _ => trivial), [.int .i64 (mkT f d).f0, .slice (some ⟨gi, 0, none⟩) 17408 17408, B], ⟨rfl, .inr ⟨gt, 1, _, rfl, h6, h1, Nat.le_refl _, by decide, by simp; decide, by rfl⟩⟩, ?_⟩
  refine Reps.snoc (ps := []) (cs := []) (Reps.none _ _) (k57_mkM W w.heap.size _ (mkT f d) ?_ ?_) rfl
  · rw [← hi]
    refine R_arr_of (n := 17408) h2 (by rw [hi]; simp [mkT]) (by decide) h7 ⟨trivial, fun e => hgi (by simpa [Value.ownBlock] using e)⟩
  · rw [← hb]
    refine ⟨fun k hk => ⟨trivial, fun e => ?_⟩, _, h3, reps_flat bs hl⟩
    obtain ⟨cells, hc⟩ := own_block_of h3 hk
    have : k = gt := by simpa [Value.ownBlock] using e
    exact blk_ne hc h1 (by decide) this
end
/-! events of Build -/
section
variable {P : Program} {ops : Array Oper} {rest : List Oper} {o : Oper} {a : Act} {Q : Exit → Act → World → Prop} {W : World}
theorem mk_event (hgd : o.guard = none) {N : Tmp} (hd : o.dst = some N) {t e : TypeId} {k : IntKind} {m : Nat} {x y : Operand} (ho : o.op = .makeSlice t x y) (hx : a.eval x = .int .i64 (m : Int)) (hy : a.eval y = .int .i64 (m : Int)) {bytes : Nat}
    (ht : P.underlying t = some (.slice e)) (hinfo : (P.info? e).map (fun i => (i.zero, i.size, i.bytes)) = some (some (.int k 0), 1, bytes)) (hb0 : 0 < bytes) (hm : m * bytes ≤ 281474976710656)
    (h : ∀ g w1, w1.heap[g]? = some (.cells (arrV k m (List.replicate m 0)) e (0, 0)) → Below W.heap.size W w1 → W.heap.size ≤ g → wpList P ops Q rest (a.put (some N) (.slice (some ⟨g, 0, none⟩) m m)) w1) : wpList P ops Q (o :: rest) a W := by
  refine Kd.event_run hgd (v := .slice (some ⟨W.heap.size, 0, none⟩) m m) (w1 := W.alloc (.cells (madeCells #[.int k 0] m) e)) ?_ ?_
  · unfold execOp
    simp only [ho, hx, hy, Sem.run_bind, print_make t e k bytes ht hinfo hb0 m hm, Result.andThen_ok, Sem.run_pure]
  · rw [hd]
    refine h _ _ ?_ (below_alloc (Below.refl _ _) _) (Nat.le_refl _)
    rw [blk_new]
    congr 2
    apply Array.toList_inj.1
    apply List.ext_getElem?
    intro j
    simp only [madeCells, arrV, Array.toList_map, List.getElem?_map, Array.toList_range]
    by_cases hj : j < m
    · simp [hj, List.getD_eq_getElem?_getD, Nat.mod_one]
    · simp [hj]
theorem mp_event (hgd : o.guard = none) {N : Tmp} (hd : o.dst = some N) {t : TypeId} (ho : o.op = .makeMap t none)
    (h : ∀ g w1, w1.heap[g]? = some (.map #[] 0) → Below W.heap.size W w1 → W.heap.size ≤ g → wpList P ops Q rest (a.put (some N) (.map (some g))) w1) : wpList P ops Q (o :: rest) a W := by
  refine Kd.event_run hgd (v := .map (some W.heap.size)) (w1 := W.alloc (.map #[] 0)) ?_ ?_
  · unfold execOp
    simp [ho, Instr.makeMap, go_sem]
  · rw [hd]
    exact h _ _ (blk_new W _) (below_alloc (Below.refl _ _) _) (Nat.le_refl _)
theorem look_event (hgd : o.guard = none) {N : Tmp} (hd : o.dst = some N) {x y : Operand} {k : IntKind} {m t e e' n : Nat} (ho : o.op = .lookup m x y true) {b clock : Nat} {ys : List Int} (hx : a.eval x = .map (some b)) (hy : a.eval y = .agg (arrV k n ys))
    {i : TypeInfo} (hm : P.underlying m = some (.map t e')) (ht : P.underlying t = some (.array n e)) (he : P.underlying e = some (.int k)) (hi : P.info? e = some i) (hc : P.cellsOf e = 1) (hz : (P.info? e').map (·.zero) = some (some (.int k 0))) {xs : List (List Int)} (hb : W.heap[b]? = some (.map (arrEs k n xs) clock))
    (h : wpList P ops Q rest (a.put (some N) (.tuple #[.int k (((xs.findIdx? (arrEq n ys)).getD 0 : Nat) : Int), .bool (xs.findIdx? (arrEq n ys)).isSome])) W) : wpList P ops Q (o :: rest) a W := by
  refine Kd.event_run hgd ?_ (by rw [hd]; exact h)
  have hr := run_look_arr hm ht he hi hc hz W b clock ys xs hb
  unfold execOp
  simp only [ho, hx, hy, Sem.run_bind]
  rw [hr]
  rfl
theorem put_event (hgd : o.guard = none) (hd : o.dst = none) {x y z : Operand} {k : IntKind} {m t e e' n : Nat} (ho : o.op = .mapUpdate m x y z) {b : Nat} {ys : List Int} {xs : List (List Int)} (hx : a.eval x = .map (some b)) (hy : a.eval y = .agg (arrV k n ys)) (hv : a.eval z = .int k (xs.length : Int))
    {i : TypeInfo} (hm : P.underlying m = some (.map t e')) (ht : P.underlying t = some (.array n e)) (he : P.underlying e = some (.int k)) (hi : P.info? e = some i) (hc : P.cellsOf e = 1) (hb : W.heap[b]? = some (.map (arrEs k n xs) xs.length)) (hn : xs.findIdx? (arrEq n ys) = none)
    (h : ∀ w1, w1 = { W with heap := W.heap.setIfInBounds b (.map (arrEs k n (xs ++ [ys])) (xs ++ [ys]).length) } → wpList P ops Q rest a w1) : wpList P ops Q (o :: rest) a W := by
  refine wpList_plain hgd fun K hK => ?_
  unfold Oper.wp execOp
  have hr := run_put_arr hm ht he hi hc W b ys xs hb hn
  simp only [ho, hx, hy, hv, Sem.run_bind]
  rw [hr]
  simp only [Result.andThen_ok, Sem.run_pure]
  have h1 := h _ rfl
  refine hK _ _ ?_
  rw [hd]
  exact h1
end
theorem ArrAt_heap {k : IntKind} {n t g : Nat} {W : World} {xs : List Int} (h : W.heap[g]? = some (.cells (arrV k n xs) t (0, 0))) (hl : xs.length = n) : ArrAt k n W ⟨g, 0, none⟩ xs := by
  refine ⟨hl, fun j hj => ?_⟩
  have ha : (⟨g, 0, none⟩ : Addr).add j = ⟨g, j, none⟩ := by
    unfold Addr.add
    split <;> simp_all
  rw [ha, cell_of_row W g j _ t (0, 0) h]
  simp [arrV, hj]
theorem gate_mapu {P : Program} {ops : Array Oper} {rest : List Oper} {o : Oper} {a : Act} {Q : Exit → Act → World → Prop} {W : World} {m : TypeId} {x y z : Operand} (_ho : o.op = .mapUpdate m x y z) (h : wpList P ops Q (o :: rest) a W) : wpList P ops Q (o :: rest) a W := h
theorem info50b : (Try.prog.info? 50).map (fun i => (i.zero, i.size, i.bytes)) = some (some (.agg (arrV .u16 64 [])), 64, 128) := by kernel_rfl
section
variable {P : Program} {ops : Array Oper} {o : Oper} {a : Act} {Q : Exit → Act → World → Prop} {K : Act → World → Prop} {W : World}
/-- '[]T{x}', x an array: its cells. -/
theorem step_lit_arr {E : Prop} (hgd : o.guard = none) {t e n : Nat} {x : Operand} (ho : o.op = .buildSlice t 1 #[(0, x)]) {cells : Array Value} (hx : a.eval x = .agg cells) (hc : cells.size = n) (hu : P.underlying t = some (.slice e)) {z : Value} {bytes : Nat} (hie : (P.info? e).map (fun i => (i.zero, i.size, i.bytes)) = some (some z, n, bytes)) (hn : 0 < n) (hn2 : n ≤ 16777216)
    (h : K (a.put o.dst (.slice (some ⟨W.heap.size, 0, none⟩) 1 1)) (W.alloc (.cells cells e))) :
    if Region.wanted o (yielded ops a.tmps) = true then Oper.wp P o a W K Q else E := by
  have hw : Region.wanted o (yielded ops a.tmps) = true := by simp [Region.wanted, hgd]
  rw [if_pos hw]
  obtain ⟨ie, hi, hzz⟩ := Option.map_eq_some_iff.1 hie
  simp only [Prod.mk.injEq] at hzz
  obtain ⟨hz0, hz1, _⟩ := hzz
  refine wp_buildSlice t e 1 _ ho cells ie z hu hi hz0 (by rw [hz1]; omega) (by rw [hz1]; omega) ?_ h
  rw [hz1]
  simp only [List.map_toArray, List.map_cons, List.map_nil, hx]
  exact fill_whole cells _ n hc (by simp)
end
theorem fold_whole (cs : List Value) (zs : Array Value) (h : zs.size = cs.length) : List.foldl (fun (cs : Array Value) (x : Value × Nat) => cs.setIfInBounds x.2 x.1) zs cs.zipIdx = cs.toArray := by
  have hf := foldl_set cs 0 zs 0
  simp only [Nat.zero_add] at hf
  apply Array.ext_getElem?
  intro j
  rw [hf.1 j]
  by_cases hj : j < cs.length
  · rw [if_pos ⟨by omega, by omega, by omega⟩]
    simp
  · rw [if_neg (by omega), Array.getElem?_eq_none (by omega), Array.getElem?_eq_none (by simp; omega)]
theorem range_alloc {w : World} {g o : Nat} {cs : List Value} (h : w.rangeAt g o cs) (hg : g < w.heap.size) (ob : Obj) : (w.alloc ob).rangeAt g o cs := fun j v hv => by
  rw [World.cell?_of_block (heap_alloc_old w ob hg)]
  exact h j v hv
theorem range_grown {w w1 : World} {g o : Nat} {cs : List Value} {row : Option Nat} (h : w.rangeAt g o cs) (hg : g < w.heap.size) (hw : w.grownBy w1 row) (hne : some g ≠ row) : w1.rangeAt g o cs := fun j v hv => by
  rw [hw.cell_far _ hg hne]
  exact h j v hv
theorem range_drew {w : World} {g o : Nat} {cs : List Value} (h : w.rangeAt g o cs) : w.drew.rangeAt g o cs := h
theorem range_set {w : World} {g o g' p : Nat} {v : Value} {cs : List Value} (h : w.rangeAt g o cs) (hne : g ≠ g') : (w.setCell ⟨g', p, none⟩ v).rangeAt g o cs := fun j u hu => by
  rw [World.cell?_of_block (Below.heap_setCell _ _ _ _ hne)]
  exact h j u hu
structure Okl (l : List S35) (d : Int) : Prop where
  d0 : 0 ≤ d
  d1 : d ≤ 65535
  lo : ∀ i : Nat, i < l.length → 0 ≤ (rd_T35 l i).f0 ∧ (rd_T35 l i).f0 ≤ (rd_T35 l i).f1 ∧ (rd_T35 l i).f1 ≤ 1114111 ∧ 0 ≤ (rd_T35 l i).f2 ∧ (rd_T35 l i).f2 ≤ 65535
  up : ∀ i : Nat, i + 1 < l.length → (rd_T35 l i).f1 < (rd_T35 l ((i + 1 : Nat) : Int)).f0
theorem w64_ (n : Int) (h1 : -9223372036854775808 ≤ n) (h2 : n ≤ 9223372036854775807) : wrap64 n = n := by
  unfold wrap64
  omega
theorem wrong_step {l : List S35} {d b1 : Int} : ∀ (k : Nat) (i : Nat), i ≤ l.length → (∀ j : Nat, j < i → 0 ≤ (rd_T35 l j).f0 ∧ (rd_T35 l j).f0 ≤ (rd_T35 l j).f1 ∧ (rd_T35 l j).f1 ≤ 1114111 ∧ 0 ≤ (rd_T35 l j).f2 ∧ (rd_T35 l j).f2 ≤ 65535) →
    (∀ j : Nat, j + 1 < i → (rd_T35 l j).f1 < (rd_T35 l ((j + 1 : Nat) : Int)).f0) → (l.length : Int) ≤ 9223372036854775807 → trie_wrong.l0 k l d l (l.length : Int) (i : Int) = some (b1, 0) → Okl l d
  | 0, _, _, _, _, _, h => by simp [trie_wrong.l0] at h
  | k + 1, i, hi, h1, h2, hm, h => by
    rw [trie_wrong.l0] at h
    by_cases hlt : i < l.length
    · rw [if_pos (by omega), if_pos (by omega), if_pos (by omega)] at h
      have key : ∀ c : Bool, (c = false → (rd_T35 l i).f0 ≥ 0 ∧ (rd_T35 l i).f1 ≤ 1114111 ∧ (rd_T35 l i).f0 ≤ (rd_T35 l i).f1) → trie_wrong.j1 k l d i l (l.length : Int) i c (rd_T35 l i).f0 (rd_T35 l i).f1 (rd_T35 l i).f2 = some (b1, 0) → Okl l d := by
        intro c hc hj
        cases k with
        | zero => simp [trie_wrong.j1] at hj
        | succ k =>
          rw [trie_wrong.j1] at hj
          cases c with
          | true => simp at hj
          | false =>
            obtain ⟨e1, e2, e3⟩ := hc rfl
            rw [if_neg (by simp)] at hj
            have key2 : ∀ c : Bool, (c = false → 0 ≤ (rd_T35 l i).f2 ∧ (rd_T35 l i).f2 ≤ 65535) → trie_wrong.j2 k l d i l (l.length : Int) i c (rd_T35 l i).f0 (rd_T35 l i).f1 (rd_T35 l i).f2 = some (b1, 0) → Okl l d := by
              intro c hc hj
              cases k with
              | zero => simp [trie_wrong.j2] at hj
              | succ k =>
                rw [trie_wrong.j2] at hj
                cases c with
                | true => simp at hj
                | false =>
                  obtain ⟨e4, e5⟩ := hc rfl
                  rw [if_neg (by simp)] at hj
                  have hw : wrap64 ((i : Int) + 1) = ((i + 1 : Nat) : Int) := by rw [w64_ _ (by omega) (by omega)]; push_cast; rfl
                  have hnew : ∀ j : Nat, j < i + 1 → 0 ≤ (rd_T35 l j).f0 ∧ (rd_T35 l j).f0 ≤ (rd_T35 l j).f1 ∧ (rd_T35 l j).f1 ≤ 1114111 ∧ 0 ≤ (rd_T35 l j).f2 ∧ (rd_T35 l j).f2 ≤ 65535 := by
                    intro j hj
                    by_cases he : j = i
                    · subst he; exact ⟨e1, e3, e2, e4, e5⟩
                    · exact h1 j (by omega)
                  by_cases h0 : 0 < i
                  · have hw1 : wrap64 ((i : Int) - 1) = ((i - 1 : Nat) : Int) := by rw [w64_ _ (by omega) (by omega)]; omega
                    rw [if_pos (by omega), if_pos (by rw [hw1]; omega), if_pos (by rw [hw1]; omega)] at hj
                    by_cases ho : (rd_T35 l i).f0 ≤ (rd_T35 l (wrap64 ((i : Int) - 1))).f1
                    · rw [if_pos ho] at hj; simp at hj
                    · rw [if_neg ho, hw] at hj
                      refine wrong_step _ (i + 1) hlt hnew (fun j hj' => ?_) hm hj
                      by_cases he : j + 1 = i
                      · rw [hw1] at ho
                        rw [he, show j = i - 1 by omega]
                        omega
                      · exact h2 j (by omega)
                  · rw [if_neg (by omega), hw] at hj
                    exact wrong_step _ (i + 1) hlt hnew (fun j hj' => by omega) hm hj
            split at hj
            · exact key2 _ (fun e => by cases e) hj
            · exact key2 _ (fun e => ⟨by omega, by have := of_decide_eq_false e; omega⟩) hj
      split at h
      · exact key _ (fun e => by cases e) h
      · split at h
        · exact key _ (fun e => by cases e) h
        · exact key _ (fun e => ⟨by omega, by omega, by have := of_decide_eq_false e; omega⟩) h
    · rw [if_neg (by omega)] at h
      split at h
      · simp at h
      · split at h
        · simp at h
        · have he : i = l.length := by omega
          subst he
          exact ⟨by omega, by omega, h1, h2⟩
theorem wrong_ok {k : Nat} {l : List S35} {d b1 : Int} (hm : (l.length : Int) ≤ 9223372036854775807) (h : trie_wrong.f k l d = some (b1, 0)) : Okl l d :=
  wrong_step k 0 (Nat.zero_le _) (fun j hj => absurd hj (Nat.not_lt_zero j)) (fun j hj => absurd hj (Nat.not_lt_zero _)) hm h
theorem rd_mem {l : List S35} {r : S35} (h : r ∈ l) : ∃ i : Nat, i < l.length ∧ rd_T35 l i = r := by
  obtain ⟨i, hi, he⟩ := List.getElem_of_mem h
  exact ⟨i, hi, by unfold rd_T35; rw [Int.toNat_natCast, List.getD_eq_getElem?_getD, List.getElem?_eq_getElem hi]; exact he⟩
theorem gv_none {d c : Int} : ∀ {l : List S35}, (∀ r ∈ l, ¬ (r.f0 ≤ c ∧ c ≤ r.f1)) → gv l d c = d
  | [], _ => rfl
  | r :: t, h => by
    rw [gv, if_neg (h r (by simp))]
    exact gv_none (fun q hq => h q (by simp [hq]))
theorem okl_lt {l : List S35} {d : Int} (h : Okl l d) : ∀ (m i : Nat), i + m + 1 < l.length → (rd_T35 l i).f1 < (rd_T35 l ((i + m + 1 : Nat) : Int)).f0
  | 0, i, hl => h.up i hl
  | m + 1, i, hl => by
    have h1 := okl_lt h m i (by omega)
    have h2 := h.up (i + m + 1) (by omega)
    have h3 := (h.lo (i + m + 1) (by omega)).2.1
    rw [show i + (m + 1) + 1 = i + m + 1 + 1 by omega]
    omega
theorem okl_lt' {l : List S35} {d : Int} (h : Okl l d) {i j : Nat} (hij : i < j) (hj : j < l.length) : (rd_T35 l i).f1 < (rd_T35 l j).f0 := by
  have := okl_lt h (j - i - 1) i (by omega)
  rwa [show i + (j - i - 1) + 1 = j by omega] at this
theorem pcs_eq {f g : Int → Int} {p : Nat} (h : ∀ j : Nat, j < 64 → f ((64 * p + j : Nat) : Int) = g ((64 * p + j : Nat) : Int)) : pcs f p = pcs g p := List.map_congr_left (fun j hj => h j (List.mem_range.1 hj))
theorem thr_is {l : List S35} {d : Int} (h : Okl l d) (p n : Nat) (hp : p < 17408) (hn : n ≤ l.length) (hb : ∀ i : Nat, i < n → (rd_T35 l i).f1 < 64 * (p : Int)) (ht : n = l.length ∨ (rd_T35 l n).f0 > 64 * (p : Int) + 63) : pcs (gv l d) p = List.replicate 64 d := by
  rw [pcs_eq (g := fun _ => d) (fun j hj => gv_none (fun r hr => ?_))]
  · unfold pcs
    rw [List.map_const']
    simp
  · obtain ⟨i, hi, rfl⟩ := rd_mem hr
    rintro ⟨a, b⟩
    push_cast at a b
    by_cases hin : i < n
    · have := hb i hin; omega
    · rcases ht with rfl | ht
      · omega
      · by_cases he : i = n
        · subst he; omega
        · have h1 := okl_lt' h (show n < i by omega) hi
          have h2 := (h.lo n (by omega)).2.1
          omega
/-- The 64 values, those from lo to hi turned. -/
def bup (a : Int) (xs : List Int) (lo hi v : Int) : List Int := (List.range 64).map fun (j : Nat) => if lo ≤ a + (j : Int) ∧ a + (j : Int) ≤ hi then v else xs.getD j 0
theorem bup_len (a : Int) (xs : List Int) (lo hi v : Int) : (bup a xs lo hi v).length = 64 := by simp [bup]
theorem bup_end (a : Int) (xs : List Int) (hx : xs.length = 64) (lo hi v : Int) (h : hi < lo ∨ a + 63 < lo) : bup a xs lo hi v = xs := by
  apply List.ext_getElem (by rw [bup_len, hx])
  intro j h1 h2
  simp only [bup, List.getElem_map, List.getElem_range]
  rw [if_neg (by omega), List.getD_eq_getElem?_getD, List.getElem?_eq_getElem h2]
  rfl
theorem bup_step (a : Int) (xs : List Int) (hx : xs.length = 64) (lo hi v : Int) (h0 : a ≤ lo) (h1 : lo ≤ hi) (h2 : lo ≤ a + 63) : bup a (xs.set (lo - a).toNat v) (lo + 1) hi v = bup a xs lo hi v := by
  unfold bup
  apply List.map_congr_left
  intro j hj
  have hj := List.mem_range.1 hj
  by_cases he : a + (j : Int) = lo
  · rw [if_neg (by omega), if_pos (by omega), show (lo - a).toNat = j by omega, List.getD_eq_getElem?_getD, List.getElem?_set_self (by omega)]
    rfl
  · by_cases hh : lo + 1 ≤ a + (j : Int) ∧ a + (j : Int) ≤ hi
    · rw [if_pos hh, if_pos (by omega)]
    · rw [if_neg hh, if_neg (by omega), List.getD_eq_getElem?_getD, List.getD_eq_getElem?_getD, List.getElem?_set_ne (by omega)]
theorem blk_l2 (m : List S35) (a : Int) (x6 : List Int) (x21 f0 f1 v : Int) (r : List Int) (ha : 0 ≤ a) (ha2 : a ≤ 1114111) (hf : f1 ≤ 1114111) (hv : 0 ≤ v ∧ v ≤ 65535) : ∀ (t : Nat) (x7 : List Int) (lo : Int), x7.length = 64 → a ≤ lo → lo ≤ 1114112 + 64 → (a + 64 - lo).toNat ≤ t →
    Ev (fun k => trie_block.l1 k a x6 (bup a x7 lo f1 v) m (m.length : Int) (wrap64 (x21 + 1))) r → Ev (fun k => trie_block.l2 k a x6 x7 lo m (m.length : Int) x21 f0 f1 v) r := by
  intro t
  induction t with
  | zero =>
    intro x7 lo hx h0 h3 ht hE
    rw [bup_end a x7 hx lo f1 v (by omega)] at hE
    refine Ev.step (fun k => ?_) hE
    rw [trie_block.l2, if_neg]
    rw [w64_ (a + 64) (by omega) (by omega), w64_ _ (by omega) (by omega)]
    unfold mn
    split <;> omega
  | succ t ih =>
    intro x7 lo hx h0 h3 ht hE
    by_cases hc : lo ≤ f1 ∧ lo ≤ a + 63
    · refine Ev.step (fun k => ?_) (ih (x7.set (lo - a).toNat v) (lo + 1) (by simp [hx]) (by omega) (by omega) (by omega) (by rw [bup_step a x7 hx lo f1 v h0 hc.1 hc.2]; exact hE))
      rw [trie_block.l2, if_pos, w64_ (lo - a) (by omega) (by omega), if_pos (by omega), if_pos (by omega), w64_ (lo + 1) (by omega) (by omega), show IntKind.u16.wrap v = v from ?_]
      · have : IntKind.u16.wrap v = v % 65536 := by simp [IntKind.wrap, IntKind.bits, IntKind.signed]
        omega
      · rw [w64_ (a + 64) (by omega) (by omega), w64_ _ (by omega) (by omega)]
        unfold mn
        split <;> omega
    · rw [bup_end a x7 hx lo f1 v (by omega)] at hE
      refine Ev.step (fun k => ?_) hE
      rw [trie_block.l2, if_neg]
      rw [w64_ (a + 64) (by omega) (by omega), w64_ _ (by omega) (by omega)]
      unfold mn
      split <;> omega
theorem gv_in {d c : Int} : ∀ (l : List S35) (r : S35), (r.f0 ≤ c ∧ c ≤ r.f1) → (∀ q ∈ l, ¬ (q.f0 ≤ c ∧ c ≤ q.f1)) → gv (l ++ [r]) d c = r.f2
  | [], r, h, _ => by rw [List.nil_append, gv, if_pos h]
  | q :: t, r, h, hn => by
    rw [List.cons_append, gv, if_neg (hn q (by simp))]
    exact gv_in t r h (fun x hx => hn x (by simp [hx]))
theorem gv_out {d c : Int} : ∀ (l m : List S35), (∀ q ∈ m, ¬ (q.f0 ≤ c ∧ c ≤ q.f1)) → gv (l ++ m) d c = gv l d c
  | [], m, h => gv_none h
  | q :: t, m, h => by
    rw [List.cons_append, gv, gv]
    split
    · rfl
    · exact gv_out t m h
theorem gv_drop {l : List S35} {d c : Int} (n : Nat) (h : ∀ i : Nat, i < n → i < l.length → (rd_T35 l i).f1 < c) : gv l d c = gv (l.drop n) d c := by
  induction n generalizing l with
  | zero => rfl
  | succ n ih =>
    cases l with
    | nil => rfl
    | cons q t =>
      have h0 : q.f1 < c := h 0 (by omega) (by simp)
      rw [gv, if_neg (by omega), List.drop_succ_cons]
      exact ih (fun i hi hl => h (i + 1) (by omega) (by simpa using hl))
theorem okl_drop {l : List S35} {d : Int} (h : Okl l d) (n : Nat) : Okl (l.drop n) d := by
  have rd : ∀ i : Nat, rd_T35 (l.drop n) (i : Int) = rd_T35 l ((n + i : Nat) : Int) := fun i => by
    unfold rd_T35
    rw [Int.toNat_natCast, Int.toNat_natCast, List.getD_eq_getElem?_getD, List.getD_eq_getElem?_getD, List.getElem?_drop]
  refine ⟨h.d0, h.d1, fun i hi => ?_, fun i hi => ?_⟩
  · rw [rd]; exact h.lo _ (by rw [List.length_drop] at hi; omega)
  · rw [rd, rd, show n + (i + 1) = n + i + 1 by omega]; exact h.up _ (by rw [List.length_drop] at hi; omega)
theorem rd_drop {m : List S35} {i : Nat} {q : S35} (h : q ∈ m.drop i) : ∃ j : Nat, i ≤ j ∧ j < m.length ∧ rd_T35 m j = q := by
  obtain ⟨j, hj, he⟩ := List.getElem_of_mem h
  rw [List.length_drop] at hj
  refine ⟨i + j, by omega, by omega, ?_⟩
  unfold rd_T35
  rw [Int.toNat_natCast, List.getD_eq_getElem?_getD, ← he, List.getElem_drop, List.getElem?_eq_getElem (by omega)]
  rfl
theorem rd_take {m : List S35} {i : Nat} {q : S35} (h : q ∈ m.take i) : ∃ j : Nat, j < i ∧ j < m.length ∧ rd_T35 m j = q := by
  obtain ⟨j, hj, he⟩ := List.getElem_of_mem h
  rw [List.length_take] at hj
  refine ⟨j, by omega, by omega, ?_⟩
  unfold rd_T35
  rw [Int.toNat_natCast, List.getD_eq_getElem?_getD, ← he, List.getElem_take, List.getElem?_eq_getElem (by omega)]
  rfl
def vals (f : Int → Int) (a : Int) : List Int := (List.range 64).map fun (j : Nat) => f (a + (j : Int))
theorem vals_len (f : Int → Int) (a : Int) : (vals f a).length = 64 := by simp [vals]
theorem arrN_self (n : Nat) (xs : List Int) (h : xs.length = n) : arrN n xs = xs := by
  apply List.ext_getElem (by rw [arrN_length, h])
  intro j h1 h2
  simp only [arrN, List.getElem_map, List.getElem_range]
  rw [List.getD_eq_getElem?_getD, List.getElem?_eq_getElem h2]
  rfl
theorem vals_rest {m : List S35} {d a : Int} (i : Nat) (h : ∀ j : Nat, i ≤ j → j < m.length → a + 63 < (rd_T35 m j).f0) : vals (gv (m.take i) d) a = vals (gv m d) a := by
  unfold vals
  apply List.map_congr_left
  intro j hj
  have hj := List.mem_range.1 hj
  have hg : gv (m.take i ++ m.drop i) d (a + (j : Int)) = gv (m.take i) d (a + (j : Int)) := gv_out _ _ (fun q hq => by
    obtain ⟨x, h1, h2, rfl⟩ := rd_drop hq
    have := h x h1 h2
    omega)
  rw [List.take_append_drop] at hg
  exact hg.symm
theorem blk_l1 {m : List S35} {d : Int} (h : Okl m d) (hm : (m.length : Int) ≤ 9223372036854775807) (a : Int) (ha : 0 ≤ a) (ha2 : a ≤ 1114111) (hlo : ∀ i : Nat, i < m.length → a ≤ (rd_T35 m i).f1) (x6 : List Int) : ∀ (t i : Nat), i + t = m.length →
    Ev (fun k => trie_block.l1 k a x6 (vals (gv (m.take i) d) a) m (m.length : Int) (i : Int)) (vals (gv m d) a) := by
  intro t
  induction t with
  | zero =>
    intro i hi
    refine Ev.step (fun k => ?_) (Ev.now _)
    rw [trie_block.l1, if_neg (by omega), vals_rest i (fun j h1 h2 => by omega)]
    rw [show arrPut 64 x6 (vals (gv m d) a) = arrN 64 (vals (gv m d) a) from rfl, arrN_self 64 _ (vals_len _ _)]
  | succ t ih =>
    intro i hi
    have hil : i < m.length := by omega
    have hL := h.lo i hil
    by_cases hge : (rd_T35 m i).f0 ≥ a + 64
    · refine Ev.step (fun k => ?_) (Ev.now _)
      rw [trie_block.l1, if_pos (by omega), if_pos (by omega), if_pos (by omega), if_pos (by rw [w64_ (a + 64) (by omega) (by omega)]; exact hge), vals_rest i (fun j h1 h2 => ?_)]
      · rw [show arrPut 64 x6 (vals (gv m d) a) = arrN 64 (vals (gv m d) a) from rfl, arrN_self 64 _ (vals_len _ _)]
      · by_cases he : j = i
        · subst he; omega
        · have h3 := okl_lt' h (show i < j by omega) h2
          omega
    · have hmx : a ≤ mx (rd_T35 m i).f0 a ∧ mx (rd_T35 m i).f0 a ≤ 1114112 + 64 ∧ (rd_T35 m i).f0 ≤ mx (rd_T35 m i).f0 a ∧ (mx (rd_T35 m i).f0 a = a ∨ mx (rd_T35 m i).f0 a = (rd_T35 m i).f0) := by
        unfold mx
        split <;> omega
      refine Ev.step (fun k => ?_) (blk_l2 m a x6 (i : Int) (rd_T35 m i).f0 (rd_T35 m i).f1 (rd_T35 m i).f2 _ ha ha2 hL.2.2.1 hL.2.2.2 64 (vals (gv (m.take i) d) a) (mx (rd_T35 m i).f0 a) (vals_len _ _) hmx.1 hmx.2.1 (by omega) ?_)
      · rw [trie_block.l1, if_pos (by omega), if_pos (by omega), if_pos (by omega), if_neg (by rw [w64_ (a + 64) (by omega) (by omega)]; exact hge)]
      · have hw : wrap64 ((i : Int) + 1) = ((i + 1 : Nat) : Int) := by rw [w64_ _ (by omega) (by omega)]; push_cast; rfl
        have hb : bup a (vals (gv (m.take i) d) a) (mx (rd_T35 m i).f0 a) (rd_T35 m i).f1 (rd_T35 m i).f2 = vals (gv (m.take (i + 1)) d) a := by
          have ht : m.take (i + 1) = m.take i ++ [rd_T35 m i] := by
            rw [List.take_succ_eq_append_getElem hil]
            congr 2
            unfold rd_T35
            rw [Int.toNat_natCast, List.getD_eq_getElem?_getD, List.getElem?_eq_getElem hil]
            rfl
          unfold bup
          rw [show vals (gv (m.take (i + 1)) d) a = (List.range 64).map fun (j : Nat) => gv (m.take (i + 1)) d (a + (j : Int)) from rfl]
          apply List.map_congr_left
          intro j hj
          have hj := List.mem_range.1 hj
          by_cases hc : mx (rd_T35 m i).f0 a ≤ a + (j : Int) ∧ a + (j : Int) ≤ (rd_T35 m i).f1
          · rw [if_pos hc, ht, gv_in _ _ (by omega)]
            intro q hq
            obtain ⟨x, h1, h2, rfl⟩ := rd_take hq
            have := okl_lt' h h1 hil
            omega
          · rw [if_neg hc, ht, gv_out _ _ (fun q hq => by rw [List.mem_singleton.1 hq]; omega)]
            simp only [vals]
            rw [List.getD_eq_getElem?_getD, List.getElem?_eq_getElem (by simp; omega), List.getElem_map, List.getElem_range]
            rfl
        rw [hw, hb]
        exact ih (i + 1) (by omega)
theorem blk_l0 (m : List S35) (a d : Int) (x6 : List Int) (r : List Int) (hE : Ev (fun k => trie_block.l1 k a x6 (List.replicate 64 d) m (m.length : Int) 0) r) : ∀ (t i : Nat), i + t = 64 → Ev (fun k => trie_block.l0 k m a d x6 (List.replicate i d ++ List.replicate t 0) (i : Int)) r := by
  intro t
  induction t with
  | zero =>
    intro i hi
    refine Ev.step (fun k => ?_) hE
    rw [trie_block.l0, if_neg (by omega), show i = 64 by omega, List.replicate_zero, List.append_nil]
  | succ t ih =>
    intro i hi
    refine Ev.step (fun k => ?_) (ih (i + 1) (by omega))
    rw [trie_block.l0, if_pos (by omega), if_pos (by omega), w64_ _ (by omega) (by omega)]
    have hs : (List.replicate i d ++ List.replicate (t + 1) 0).set (i : Int).toNat d = List.replicate (i + 1) d ++ List.replicate t 0 := by
      rw [Int.toNat_natCast, List.set_append_right _ _ (by simp), List.length_replicate, Nat.sub_self, List.replicate_succ, List.set_cons_zero, List.replicate_succ', List.append_assoc]
      rfl
    rw [hs]
    push_cast
    rfl
theorem blk_is {l : List S35} {d : Int} (h : Okl l d) (hm : (l.length : Int) ≤ 9223372036854775807) (p n : Nat) (hp : p < 17408) (hn : n ≤ l.length) (hb : ∀ i : Nat, i < n → (rd_T35 l i).f1 < 64 * (p : Int)) (hf : n < l.length → 64 * (p : Int) ≤ (rd_T35 l n).f1) : ∃ k, trie_block.f k (l.drop n) (64 * (p : Int)) d = some (pcs (gv l d) p) := by
  have hD := okl_drop h n
  have hlo : ∀ i : Nat, i < (l.drop n).length → 64 * (p : Int) ≤ (rd_T35 (l.drop n) i).f1 := by
    intro i hi
    have h0 : 0 < (l.drop n).length := by omega
    have hn' : n < l.length := by rw [List.length_drop] at h0; omega
    have e0 : (rd_T35 (l.drop n) ((0 : Nat) : Int)) = rd_T35 l (n : Int) := by
      unfold rd_T35
      rw [Int.toNat_natCast, Int.toNat_natCast, List.getD_eq_getElem?_getD, List.getD_eq_getElem?_getD, List.getElem?_drop]
      rfl
    have h1 := hf hn'
    by_cases hi0 : i = 0
    · subst hi0; rw [e0]; exact h1
    · have h2 := okl_lt' hD (show 0 < i by omega) hi
      have h3 := (hD.lo i hi).2.1
      rw [e0] at h2
      omega
  have h1 := blk_l1 hD (by rw [List.length_drop]; omega) (64 * (p : Int)) (by omega) (by omega) hlo (List.replicate 64 0) (l.drop n).length 0 (by omega)
  have hv0 : vals (gv ((l.drop n).take 0) d) (64 * (p : Int)) = List.replicate 64 d := by
    unfold vals
    rw [List.take_zero]
    show (List.range 64).map (fun _ => d) = _
    rw [List.map_const']
    simp
  rw [hv0] at h1
  obtain ⟨k, hk⟩ := (blk_l0 (l.drop n) (64 * (p : Int)) d (List.replicate 64 0) _ h1 64 0 rfl).rounds
  refine ⟨k, ?_⟩
  unfold trie_block.f
  rw [show pcs (gv l d) p = vals (gv (l.drop n) d) (64 * (p : Int)) from ?_]
  · exact hk
  · unfold pcs vals
    apply List.map_congr_left
    intro j hj
    push_cast
    exact gv_drop n (fun i hi hl => by have := hb i hi; omega)
theorem pcs_len (f : Int → Int) (p : Nat) : (pcs f p).length = 64 := by simp [pcs]
theorem bls_len (f : Int → Int) : ∀ p : Nat, (bls f p).length ≤ p ∧ ∀ b ∈ bls f p, b.length = 64
  | 0 => by simp [bls]
  | p + 1 => by
    obtain ⟨h1, h2⟩ := bls_len f p
    unfold bls
    split
    · exact ⟨by omega, h2⟩
    · refine ⟨by simp; omega, fun b hb => ?_⟩
      rcases List.mem_append.1 hb with h | h
      · exact h2 b h
      · rw [List.mem_singleton.1 h]; exact pcs_len f p
theorem arrEq_iff (y x : List Int) (hy : y.length = 64) (hx : x.length = 64) : arrEq 64 y x = true ↔ y = x := by
  unfold arrEq
  constructor
  · intro h
    apply List.ext_getElem (by omega)
    intro j h1 h2
    have h3 := List.all_eq_true.1 h j (List.mem_range.2 (by omega))
    simp only [List.getD_eq_getElem?_getD, List.getElem?_eq_getElem h1, List.getElem?_eq_getElem h2, Option.getD_some, beq_iff_eq] at h3
    exact h3
  · rintro rfl
    simp
theorem find_pcs (bs : List (List Int)) (h : ∀ b ∈ bs, b.length = 64) (y : List Int) (hy : y.length = 64) : bs.findIdx? (arrEq 64 y) = if y ∈ bs then some (bs.idxOf y) else none := by
  induction bs with
  | nil => simp
  | cons b r ih =>
    have ih := ih (fun q hq => h q (by simp [hq]))
    rw [List.findIdx?_cons]
    by_cases he : y = b
    · subst he
      rw [if_pos ((arrEq_iff y y hy hy).2 rfl), if_pos (by simp)]
      simp
    · have hn : arrEq 64 y b = false := by
        cases hb : arrEq 64 y b
        · rfl
        · exact absurd ((arrEq_iff y b hy (h b (by simp))).1 hb) he
      rw [hn, ih]
      by_cases hm : y ∈ r
      · rw [if_pos hm, if_pos (show y ∈ b :: r by simp [hm]), List.idxOf_cons, show (b == y) = false from beq_eq_false_iff_ne.2 (fun e => he e.symm)]
        rfl
      · rw [if_neg hm, if_neg (show ¬ y ∈ b :: r by simp [he, hm])]
        rfl
theorem bls_mono (f : Int → Int) (p : Nat) : ∀ m, ∃ r, bls f (p + m) = bls f p ++ r
  | 0 => ⟨[], by simp⟩
  | m + 1 => by
    obtain ⟨r, hr⟩ := bls_mono f p m
    rw [show p + (m + 1) = (p + m) + 1 from rfl, bls]
    split
    · exact ⟨r, hr⟩
    · exact ⟨r ++ [pcs f (p + m)], by rw [hr, List.append_assoc]⟩
theorem idx_mem {α : Type} [BEq α] [LawfulBEq α] {a : α} {l r : List α} (h : a ∈ l) : (l ++ r).idxOf a = l.idxOf a := by rw [List.idxOf_append, if_pos h]
theorem idx_new {α : Type} [BEq α] [LawfulBEq α] {a : α} {l : List α} (h : a ∉ l) : (l ++ [a]).idxOf a = l.length := by rw [List.idxOf_append, if_neg h]; simp
theorem bls_idx (f : Int → Int) {p q : Nat} (h : p ≤ q) {y : List Int} (hy : y ∈ bls f p) : (bls f q).idxOf y = (bls f p).idxOf y := by
  obtain ⟨r, hr⟩ := bls_mono f p (q - p)
  rw [show q = p + (q - p) by omega, hr]
  exact idx_mem hy
/-- What the loop of Build holds ahead of piece p. -/
def Bi (l : List S35) (d : Int) (p n : Nat) (last : Int) (idx : List Int) (bs : List (List Int)) : Prop :=
  p ≤ 17408 ∧ n ≤ l.length ∧ (∀ i : Nat, i < n → (rd_T35 l i).f1 < 64 * (p : Int)) ∧ (last = -1 ∨ ∃ j : Nat, last = j ∧ j < bs.length ∧ bs.idxOf (List.replicate 64 d) = j) ∧
  idx = (List.range 17408).map (fun q => if q < p then (((bls (gv l d) 17408).idxOf (pcs (gv l d) q) : Nat) : Int) else 0) ∧ bs = bls (gv l d) p
theorem Bi_start (l : List S35) (d : Int) : Bi l d 0 0 (-1) (List.replicate 17408 0) [] := by
  refine ⟨by omega, by omega, fun i h => by omega, .inl rfl, ?_, rfl⟩
  apply List.ext_getElem (by rw [List.length_replicate, List.length_map, List.length_range])
  intro j h1 h2
  rw [List.getElem_replicate, List.getElem_map, if_neg (by omega)]
theorem map_lt (N : Nat) (g : Nat → Int) : (List.range N).map (fun q => if q < N then g q else 0) = (List.range N).map g := List.map_congr_left (fun q hq => if_pos (List.mem_range.1 hq))
theorem idx_set (l : List S35) (d : Int) (p j : Nat) (hp : p < 17408) (hj : (bls (gv l d) 17408).idxOf (pcs (gv l d) p) = j) :
    ((List.range 17408).map (fun q => if q < p then (((bls (gv l d) 17408).idxOf (pcs (gv l d) q) : Nat) : Int) else 0)).set p (j : Int) = (List.range 17408).map (fun q => if q < p + 1 then (((bls (gv l d) 17408).idxOf (pcs (gv l d) q) : Nat) : Int) else 0) := by
  apply List.ext_getElem (by rw [List.length_set, List.length_map, List.length_map])
  intro i h1 h2
  simp only [List.getElem_set, List.getElem_map, List.getElem_range]
  by_cases he : p = i
  · subst he
    rw [if_pos rfl, if_pos (by omega), hj]
  · rw [if_neg he]
    by_cases hi : i < p
    · rw [if_pos hi, if_pos (by omega)]
    · rw [if_neg hi, if_neg (by omega)]
theorem Bi_old {l : List S35} {d : Int} {p n n' : Nat} {last last' : Int} {idx : List Int} {bs : List (List Int)} (h : Bi l d p n last idx bs) (hp : p < 17408) (hn : n' ≤ l.length) (hb : ∀ i : Nat, i < n' → (rd_T35 l i).f1 < 64 * (p : Int)) {j : Nat} (hj : j < bs.length) (hi : bs.idxOf (pcs (gv l d) p) = j)
    (hl : last' = last ∨ (last' = j ∧ pcs (gv l d) p = List.replicate 64 d)) : Bi l d (p + 1) n' last' (idx.set p (j : Int)) bs := by
  obtain ⟨h1, h2, h3, h4, h5, h6⟩ := h
  have hm : pcs (gv l d) p ∈ bs := List.idxOf_lt_length_iff.1 (by omega)
  refine ⟨by omega, hn, fun i hi => by have := hb i hi; push_cast; omega, ?_, ?_, ?_⟩
  · rcases hl with rfl | ⟨rfl, he⟩
    · exact h4
    · exact .inr ⟨j, rfl, hj, by rw [← he]; exact hi⟩
  · rw [h5]
    refine idx_set l d p j hp ?_
    rw [h6] at hm hi
    rw [bls_idx _ (by omega) hm]
    exact hi
  · rw [bls, ← h6, if_pos hm]
theorem Bi_new {l : List S35} {d : Int} {p n n' : Nat} {last last' : Int} {idx : List Int} {bs : List (List Int)} (h : Bi l d p n last idx bs) (hp : p < 17408) (hn : n' ≤ l.length) (hb : ∀ i : Nat, i < n' → (rd_T35 l i).f1 < 64 * (p : Int)) (hi : pcs (gv l d) p ∉ bs)
    (hl : last' = last ∨ (last' = bs.length ∧ pcs (gv l d) p = List.replicate 64 d)) : Bi l d (p + 1) n' last' (idx.set p (bs.length : Int)) (bs ++ [pcs (gv l d) p]) := by
  obtain ⟨h1, h2, h3, h4, h5, h6⟩ := h
  have hbs : bs ++ [pcs (gv l d) p] = bls (gv l d) (p + 1) := by rw [bls, ← h6, if_neg hi]
  have hx : (bs ++ [pcs (gv l d) p]).idxOf (pcs (gv l d) p) = bs.length := by
    exact idx_new hi
  refine ⟨Nat.succ_le_of_lt hp, hn, fun i hi => by have := hb i hi; push_cast; omega, ?_, ?_, hbs⟩
  · rcases hl with rfl | ⟨rfl, he⟩
    · rcases h4 with h4 | ⟨j, e, hj, hi'⟩
      · exact .inl h4
      · exact .inr ⟨j, e, by simp; omega, by rw [idx_mem (List.idxOf_lt_length_iff.1 (by omega))]; exact hi'⟩
    · exact .inr ⟨bs.length, rfl, by simp, by rw [← he]; exact hx⟩
  · rw [h5]
    refine idx_set l d p _ hp ?_
    rw [bls_idx _ (show p + 1 ≤ 17408 by omega) (by rw [← hbs]; simp), ← hbs]
    exact hx
theorem Bi_end {l : List S35} {d : Int} {n : Nat} {last : Int} {idx : List Int} {bs : List (List Int)} (h : Bi l d 17408 n last idx bs) : idx = (mkT (gv l d) d).f1 ∧ bs = (mkT (gv l d) d).f2 := by
  obtain ⟨_, _, _, _, h5, h6⟩ := h
  simp only [mkT]
  exact ⟨h5.trans (map_lt 17408 _), h6⟩
theorem trie_Build.calls (k : Nat) (A0 : Option Addr) (c0 : Nat) (l0 : List S35) (a1 : Int) (r1 : List S57) (r2 r3 : Int) (w : World) (hr0 : Kd.C k35 w A0 l0.length l0) (hc0 : l0.length ≤ c0) (h : trie_Build.f k l0 a1 = some (r1, r2, r3)) :
    Calls Try.prog 9 #[.slice A0 l0.length c0, .int .i64 a1] w fun e w' => ∃ v0_ : Value, e = .returned (.tuple #[v0_, .int .i64 r2, .int .i64 r3]) ∧ Kd.P k57 57 w' w.heap.size (fun _ => True) v0_ r1 ∧ Below w.heap.size w w' := by
  have hu35 := Try.underlying35
  have HR0 := Aside0.mk hr0
  have HC0 := Aside0.mk hc0
  clear hr0 hc0
  unfold trie_Build.f at h
  obtain ⟨⟨b1, b2⟩, hw, h⟩ := Option.bind_eq_some_iff.1 h
  dsimp only at h
  have HW := Aside0.mk hw
  clear hw
  by_cases hb2 : b2 = 0
  case neg =>
    rw [if_neg hb2] at h
    simp only [Option.some.injEq, Prod.mk.injEq] at h
    obtain ⟨rfl, rfl, rfl⟩ := h
    have hb3 : decide (b2 = 0) = false := decide_eq_false hb2
    go_enter Try.func9, Try.ntmps9
    go_wp2_with fail
    refine (trie_wrong.calls _ A0 c0 l0 a1 b1 b2 _ HR0.out HC0.out HW.out).mono ?_
    rintro e w1 ⟨rfl, hb⟩
    have HB1 := Aside0.mk hb; clear hb
    go_wp2_with fail
    go_ret3
    exact ⟨.pointer none, rfl, Kd.P_nil _ _ _ _ _, HB1.out⟩
  case pos =>
    rw [if_pos hb2] at h
    simp only [Option.some.injEq, Prod.mk.injEq] at h
    obtain ⟨rfl, rfl, rfl⟩ := h
    subst hb2
    have HOK := Aside0.mk (wrong_ok (by have := HR0.out.2.1; omega) HW.out)
    have hmx : (l0.length : Int) ≤ 9223372036854775807 := by have := HR0.out.2.1; omega
    clear h
    go_enter Try.func9, Try.ntmps9
    go_wp2_with fail
    refine (trie_wrong.calls _ A0 c0 l0 a1 b1 0 _ HR0.out HC0.out HW.out).mono ?_
    rintro e w1 ⟨rfl, hb⟩
    have HB1 := Aside0.mk hb; clear hb
    go_wp2_with (first
      | ((with_reducible refine gate_dst (N := 31) rfl ?_); refine mk_event (k := .u16) (m := 17408) (N := 31) (t := 43) (e := 49) rfl rfl rfl rfl rfl Try.underlying43 info49 (by decide) (by decide) ?_; intro gi w2 hgi hb hge; have HI2 := Aside0.mk hgi; have HB2 := Aside0.mk (below_step HB1.out hb); have GI := Aside0.mk (Nat.le_trans (below_size HB1.out) hge); clear hgi hb hge)
      | ((with_reducible refine gate_dst (N := 33) rfl ?_); refine box_event ?hg (N := 33) ?hd (cs := #[.int .i64 a1, .slice (some ⟨gi, 0, none⟩) 17408 17408, .slice none 0 0]) (t := 57) ?hr ?_; (case hd => rfl); (case hg => rfl); (case hr => first | (go_simp; done) | (go_simp; rfl)); intro gt hge w3 hgt hb; have HT3 := Aside0.mk hgt; have HI3 := Aside0.mk ((hb.block _ (blk_lt HI2.out)).trans HI2.out); have HB3 := Aside0.mk (below_step HB2.out hb); have GT := Aside0.mk (hge ▸ below_size HB2.out); clear hgt hb hge)
      | ((with_reducible refine gate_dst (N := 34) rfl ?_); refine mp_event (N := 34) (t := 58) rfl rfl rfl ?_; intro gm w4 hgm hb hge; have HM4 := Aside0.mk hgm; have HT4 := Aside0.mk ((hb.block _ (blk_lt HT3.out)).trans HT3.out); have HI4 := Aside0.mk ((hb.block _ (blk_lt HI3.out)).trans HI3.out); have HB4 := Aside0.mk (below_step HB3.out hb); have GM := Aside0.mk (Nat.le_trans (below_size HB3.out) hge); clear hgm hb hge))
    have HD := Aside0.mk (show Bd w w4 a1 gt gi gm (.slice none 0 0) (List.replicate 17408 0) [] [] from ⟨HT4.out, HI4.out, ⟨rfl, .inl ⟨rfl, rfl⟩⟩, HM4.out, HB4.out, GT.out, GI.out, GM.out⟩)
    clear HM4 HT4 HI4 HB4 GM GT GI HT3 HI3 HB3 HI2 HB2 HB1
    go_loopg [35, 11, 12] 17408 (fun kq v35 v11 v12 w' => ∃ (x35 x11 x12 : Int) (B : Value) (idx : List Int) (bs : List (List Int)), v35 = .int .i64 x35 ∧ v11 = .int .i64 x11 ∧ v12 = .int .i64 x12 ∧ Aside0 (∃ p n : Nat, x35 = p ∧ x12 = n ∧ kq + p = 17408 ∧ Bi l0 a1 p n x11 idx bs) ∧ Aside0 (Bd w w' a1 gt gi gm B idx bs bs))
    case atStart =>
      exact ⟨0, -1, 0, .slice none 0 0, List.replicate 17408 0, [], rfl, rfl, rfl, ⟨0, 0, rfl, rfl, rfl, Bi_start l0 a1⟩, HD⟩
    case round =>
      clear HD
      obtain ⟨x35, x11, x12, B, idx, bs, rfl, rfl, rfl, HP, HD⟩ := hrel
      obtain ⟨p, n, hp, hn, hk, hbi⟩ := HP.out
      clear HP
      by_cases hend : p < 17408
      case neg =>
        have c1 : decide (x35 < 17408) = false := decide_eq_false (by omega)
        have hp17 : p = 17408 := by have := hbi.1; omega
        subst hp17
        obtain ⟨hidx, hbs⟩ := Bi_end hbi
        have HE1 := Aside0.mk hidx
        have HE2 := Aside0.mk hbs
        have HE3 := Aside0.mk (show ∀ b ∈ bs, b.length = 64 by rw [hbi.2.2.2.2.2]; exact (bls_len _ _).2)
        clear hidx hbs hp hn hk hbi
        go_wp2_with fail
        go_ret3
        exact ⟨.pointer (some ⟨gt, 0, none⟩), rfl, Bd_P HD.out HE1.out HE2.out HE3.out, HD.out.2.2.2.2.1⟩
      case pos =>
        have c1 : decide (x35 < 17408) = true := decide_eq_true (by omega)
        have p0 : 0 ≤ x35 := by omega
        have p1 : x35 < 17408 := by omega
        have HP := Aside0.mk (⟨hp, hn, hk, hbi⟩ : x35 = p ∧ x12 = n ∧ gk + p = 17408 ∧ Bi l0 a1 p n x11 idx bs)
        clear hp hn hk hbi
        go_upto_block 2 with (fail)
        go_cut [12] (fun v12 wc => ∃ (y12 : Int), v12 = .int .i64 y12 ∧ Aside0 (∃ n' : Nat, y12 = n' ∧ n' ≤ l0.length ∧ (∀ i : Nat, i < n' → (rd_T35 l0 i).f1 < 64 * (p : Int)) ∧ (n' < l0.length → 64 * (p : Int) ≤ (rd_T35 l0 n').f1)) ∧ Aside0 (Bd w wc a1 gt gi gm B idx bs bs))
        case first =>
          go_wp2_with fail
          go_loopg [12] (l0.length - n) (fun kq v12 w' => ∃ (y12 : Int), v12 = .int .i64 y12 ∧ Aside0 (∃ n' : Nat, y12 = n' ∧ kq + n' = l0.length ∧ (∀ i : Nat, i < n' → (rd_T35 l0 i).f1 < 64 * (p : Int))) ∧ Aside0 (Bd w w' a1 gt gi gm B idx bs bs))
          case atStart => exact ⟨x12, rfl, ⟨n, HP.out.2.1, by have := HP.out.2.2.2.2.1; omega, HP.out.2.2.2.2.2.1⟩, HD⟩
          case round =>
            clear HD
            obtain ⟨y12, rfl, HN, HD⟩ := hrel
            obtain ⟨n', hn, hk, hb⟩ := HN.out
            clear HN
            by_cases hlt : n' < l0.length
            case neg =>
              have c2 : decide (y12 < (l0.length : Int)) = false := decide_eq_false (by omega)
              have HN := Aside0.mk (show ∃ n' : Nat, y12 = n' ∧ n' ≤ l0.length ∧ (∀ i : Nat, i < n' → (rd_T35 l0 i).f1 < 64 * (p : Int)) ∧ (n' < l0.length → 64 * (p : Int) ≤ (rd_T35 l0 n').f1) from ⟨n', hn, by omega, hb, fun h => absurd h hlt⟩)
              clear hn hk hb hlt
              go_wp2_with fail
              go_meet
              case rel => exact ⟨y12, rfl, HN, HD⟩
            case pos =>
              have c2 : decide (y12 < (l0.length : Int)) = true := decide_eq_true (by omega)
              have q0 : 0 ≤ y12 := by omega
              have q1 : y12 < (l0.length : Int) := by omega
              obtain ⟨ad, e_, hx0, hx1, hx2⟩ := at_T35 HR0.out y12 q0 q1
              cases e_
              replace hx1 := (HD.out.2.2.2.2.1.cell (World.block_lt_of_cell? w _ hx1)).trans hx1
              clear hx0 hx2
              by_cases hf : (rd_T35 l0 y12).f1 < x35 * 64
              case neg =>
                have c3 : decide ((rd_T35 l0 y12).f1 < x35 * 64) = false := decide_eq_false hf
                have HN := Aside0.mk (show ∃ n' : Nat, y12 = n' ∧ n' ≤ l0.length ∧ (∀ i : Nat, i < n' → (rd_T35 l0 i).f1 < 64 * (p : Int)) ∧ (n' < l0.length → 64 * (p : Int) ≤ (rd_T35 l0 n').f1) from ⟨n', hn, by omega, hb, fun _ => by have hxp := HP.out.1; rw [← hn, ← hxp]; omega⟩)
                clear hn hk hb hlt hf
                go_wp2_with fail
                go_meet
                case rel => exact ⟨y12, rfl, HN, HD⟩
              case pos =>
                have c3 : decide ((rd_T35 l0 y12).f1 < x35 * 64) = true := decide_eq_true hf
                obtain ⟨kq, rfl⟩ : ∃ kq, gk = kq + 1 := ⟨gk - 1, by omega⟩
                have HN := Aside0.mk (show ∃ n' : Nat, y12 + 1 = n' ∧ kq + n' = l0.length ∧ (∀ i : Nat, i < n' → (rd_T35 l0 i).f1 < 64 * (p : Int)) from ⟨n' + 1, by omega, by omega, fun i hi => by
                  by_cases he : i = n'
                  · subst he; have hxp := HP.out.1; rw [← hn, ← hxp]; omega
                  · exact hb i (by omega)⟩)
                clear hn hk hb hlt hf
                go_wp2_with fail
                go_roundg kq
                case measure => omega
                case rel => exact ⟨y12 + 1, rfl, HN, HD⟩
        case rest =>
          clear HD
          obtain ⟨y12, rfl, HN, HD⟩ := hcut
          go_upto_region 15 with (fail)
          go_cut [16] (fun v16 wc => ∃ (thr : Bool), v16 = .bool thr ∧ Aside0 (∃ n' : Nat, y12 = n' ∧ n' ≤ l0.length ∧ (∀ i : Nat, i < n' → (rd_T35 l0 i).f1 < 64 * (p : Int)) ∧ (thr = true → n' = l0.length ∨ (rd_T35 l0 n').f0 > 64 * (p : Int) + 63) ∧ (n' < l0.length → 64 * (p : Int) ≤ (rd_T35 l0 n').f1)) ∧ Aside0 (Bd w wc a1 gt gi gm B idx bs bs))
          case first =>
            obtain ⟨n', hn, hle, hb, hff⟩ := HN.out
            clear HN
            by_cases hlt : n' < l0.length
            case neg =>
              have c2 : (y12 == (l0.length : Int)) = true := beq_iff_eq.mpr (by omega)
              have HN := Aside0.mk (show ∃ n' : Nat, y12 = n' ∧ n' ≤ l0.length ∧ (∀ i : Nat, i < n' → (rd_T35 l0 i).f1 < 64 * (p : Int)) ∧ (n' = l0.length ∨ (rd_T35 l0 n').f0 > 64 * (p : Int) + 63) ∧ (n' < l0.length → 64 * (p : Int) ≤ (rd_T35 l0 n').f1) from ⟨n', hn, hle, hb, .inl (by omega), hff⟩)
              clear hn hle hb hlt hff
              go_wp2_with fail
              go_meet
              case rel => exact ⟨true, rfl, ⟨by obtain ⟨n', a, b, c, d, e⟩ := HN.out; exact ⟨n', a, b, c, fun _ => d, e⟩⟩, HD⟩
            case pos =>
              have c2 : (y12 == (l0.length : Int)) = false := beq_eq_false_iff_ne.mpr (by omega)
              have q0 : 0 ≤ y12 := by omega
              have q1 : y12 < (l0.length : Int) := by omega
              obtain ⟨ad, e_, hx0, hx1, hx2⟩ := at_T35 HR0.out y12 q0 q1
              cases e_
              replace hx0 := (HD.out.2.2.2.2.1.cell (World.block_lt_of_cell? w _ hx0)).trans hx0
              clear hx1 hx2
              have HN := Aside0.mk (show ∃ n' : Nat, y12 = n' ∧ n' ≤ l0.length ∧ (∀ i : Nat, i < n' → (rd_T35 l0 i).f1 < 64 * (p : Int)) ∧ (decide (x35 * 64 + 64 - 1 < (rd_T35 l0 y12).f0) = true → n' = l0.length ∨ (rd_T35 l0 n').f0 > 64 * (p : Int) + 63) ∧ (n' < l0.length → 64 * (p : Int) ≤ (rd_T35 l0 n').f1) from ⟨n', hn, hle, hb, fun h => .inr (by have := of_decide_eq_true h; have hxp := HP.out.1; rw [← hn]; omega), hff⟩)
              clear hn hle hb hlt hff
              go_wp2_with fail
              go_meet
              case rel => exact ⟨_, rfl, HN, HD⟩
          case rest =>
            clear HD HN
            obtain ⟨thr, rfl, HN, HD⟩ := hcut
            go_upto_region 16 with (fail)
            go_cut [75] (fun v75 wc => ∃ (sk : Bool), v75 = .bool sk ∧ Aside0 (sk = true → thr = true ∧ 0 ≤ x11) ∧ Aside0 (Bd w wc a1 gt gi gm B idx bs bs))
            case first =>
              cases thr
              case false =>
                go_wp2_with fail
                go_meet
                case rel => exact ⟨false, rfl, ⟨fun h => by cases h⟩, HD⟩
              case true =>
                go_wp2_with fail
                go_meet
                case rel => exact ⟨decide (0 ≤ x11), rfl, ⟨fun h => ⟨by first | rfl | trivial, of_decide_eq_true h⟩⟩, HD⟩
            case rest =>
              clear HD
              obtain ⟨sk, rfl, HS, HD⟩ := hcut
              cases sk
              case true =>
                obtain ⟨rfl, hx⟩ := HS.out rfl
                clear HS
                obtain ⟨n', hn, hle, hb, ht, hff⟩ := HN.out
                obtain ⟨hp, hn0, hk, hbi⟩ := HP.out
                have hth := thr_is HOK.out p n' hend hle hb (ht rfl)
                obtain ⟨j, hj, hjl, hji⟩ : ∃ j : Nat, x11 = j ∧ j < bs.length ∧ bs.idxOf (List.replicate 64 a1) = j := by
                  rcases hbi.2.2.2.1 with h | h
                  · omega
                  · exact h
                have hjm : j < 17408 := by
                  have h1 := (bls_len (gv l0 a1) p).1
                  rw [← hbi.2.2.2.2.2] at h1
                  omega
                have hbi' := Bi_old hbi hend hle hb hjl (by rw [hth]; exact hji) (.inl rfl)
                have hil : idx.length = 17408 := by rw [hbi.2.2.2.2.1]; simp
                have hq : x35.toNat = p := by omega
                have hj0 : x11 = (j : Int) := hj
                have x11b : x11 < 17408 := by omega
                have HBI := Aside0.mk (show ∃ (p' n'' : Nat), x35 + 1 = p' ∧ y12 = n'' ∧ gk - 1 + p' = 17408 ∧ Bi l0 a1 p' n'' x11 (idx.set p (j : Int)) bs from ⟨p + 1, n', by omega, hn, by omega, hbi'⟩)
                have HDS := Aside0.mk (Bd_set HD.out p (j : Int) hil)
                have HGK := Aside0.mk (show gk - 1 < gk by omega)
                obtain ⟨ht1, ht2⟩ := Bd_t HD.out
                obtain ⟨hi1, hi2⟩ := Bd_i HD.out p hend
                clear hp hn0 hk hbi hbi' hn hle hb ht hff hth hj hjl hji hjm hil
                have HQ := Aside0.mk hq
                have HJ := Aside0.mk hj0
                rw [← hq] at hi1 hi2
                clear hq hj0 ht2
                go_wp2_with fail
                go_roundg (gk - 1)
                case measure => exact HGK.out
                case rel =>
                  obtain ⟨p', n'', e1, e2, e3, e4⟩ := HBI.out
                  refine ⟨x35 + 1, x11, y12, B, idx.set p (j : Int), bs, rfl, rfl, rfl, ⟨p', n'', e1, e2, e3, e4⟩, ⟨?_⟩⟩
                  rw [HQ.out, HJ.out]
                  exact HDS.out
              case false =>
                clear HS
                obtain ⟨n', hn, hle, hb, ht, hff⟩ := HN.out
                clear HN
                obtain ⟨hp, hn0, hk, hbi⟩ := HP.out
                clear HP
                obtain ⟨kb, hblk⟩ := blk_is HOK.out hmx p n' hend hle hb hff
                obtain ⟨y, hy⟩ : ∃ y, y = pcs (gv l0 a1) p := ⟨_, rfl⟩
                have hyl : y.length = 64 := by rw [hy]; simp [pcs]
                have hil : idx.length = 17408 := by rw [hbi.2.2.2.2.1]; simp
                have hbl := bls_len (gv l0 a1) p
                rw [← hbi.2.2.2.2.2] at hbl
                have hth : thr = true → y = List.replicate 64 a1 := fun h => hy.trans (thr_is HOK.out p n' hend hle hb (ht h))
                rw [← hy, show 64 * (p : Int) = x35 * 64 by omega] at hblk
                obtain ⟨ys, hys⟩ : ∃ ys, ys = l0.drop n' := ⟨_, rfl⟩
                rw [← hys] at hblk
                obtain ⟨i0, hi0, _, hsz0, _⟩ := info_parts info35
                have hcut := cut_from (P := Try.prog) 22 35 .i64 Try.underlying22 hi0 3 hsz0 A0 l0.length c0 y12 (by omega) (by omega)
                have hr1 := Kd.C_drop (c := c0) (m := n') HR0.out hle HC0.out
                rw [← hys] at hr1
                have hyn : y12.toNat = n' := by omega
                have hysl : ys.length = l0.length - n' := by rw [hys]; simp
                obtain ⟨A1, hA1⟩ : ∃ A1, A1 = (if c0 = n' then A0 else (A0 : Option Addr).map (·.add (n' * 3))) := ⟨_, rfl⟩
                obtain ⟨c1', hc1⟩ : ∃ c1', c1' = c0 - n' := ⟨_, rfl⟩
                rw [hyn, ← hysl, ← hA1, ← hc1] at hcut
                replace hr1 : Kd.C k35 w A1 ys.length ys := by rw [hA1]; exact hr1
                have HR1 := Aside0.mk hr1
                have HC1 := Aside0.mk (show ys.length ≤ c1' by rw [hysl, hc1]; have := HC0.out; omega)
                have HBK := Aside0.mk hblk
                have HYL := Aside0.mk hyl
                have HTH := Aside0.mk hth
                have HBL := Aside0.mk hbl
                have HY := Aside0.mk hy
                have HBI := Aside0.mk (show x35 = p ∧ y12 = n' ∧ gk + p = 17408 ∧ Bi l0 a1 p n x11 idx bs ∧ n' ≤ l0.length ∧ (∀ i : Nat, i < n' → (rd_T35 l0 i).f1 < 64 * (p : Int)) ∧ idx.length = 17408 from ⟨hp, hn, hk, hbi, hle, hb, hil⟩)
                have bl0 : (bs.length : Int) ≤ 17408 := by have := hbl.1; omega
                have hq : x35.toNat = p := by omega
                have a10 : 0 ≤ a1 := HOK.out.d0
                have a11 : a1 ≤ 65535 := HOK.out.d1
                clear hp hn hn0 hk hbi hle hb hil ht hff hth hblk hy hyl hbl hys hi0 hsz0 hr1 hyn hysl hA1 hc1
                have HQ := Aside0.mk hq
                clear hq
                go_wp2_with fail
                refine (trie_block.calls kb A1 c1' ys (x35 * 64) a1 y _ (Kd.C_below HR1.out HD.out.2.2.2.2.1) HC1.out HBK.out).mono ?_
                rintro e w5 ⟨rfl, hb5⟩
                have HD5 := Aside0.mk (Bd_below HD.out hb5)
                clear hb5 HD
                obtain ⟨i49, hi49, _, hsz49, _⟩ := info_parts info49
                have HI49 := Aside0.mk hi49
                clear hi49 hsz49
                by_cases hmem : y ∈ bs
                case pos =>
                  obtain ⟨j, hj⟩ : ∃ j, j = bs.idxOf y := ⟨_, rfl⟩
                  have hjl : j < bs.length := by rw [hj]; exact List.idxOf_lt_length_iff.2 hmem
                  have hfi : bs.findIdx? (arrEq 64 y) = some j := by rw [find_pcs bs HBL.out.2 y HYL.out, if_pos hmem, hj]
                  have HFI := Aside0.mk hfi
                  have j1 : (j : Int) ≤ 17408 := by omega
                  have HJ := Aside0.mk hj
                  have HJL := Aside0.mk hjl
                  clear hfi hj hjl
                  go_upto_region 24 with (first
                    | ((with_reducible refine gate_dst (N := 17) rfl ?_); refine arrvar_event (k := .u16) (n := 64) (t := 50) rfl (N := 17) rfl rfl (by kernel_rfl) (by decide) (Below.refl _ _) ?_; intro ga w6 ho6 hb6 _ hg6; have HO6 := Aside0.mk ho6; have HB6 := Aside0.mk hb6; have GA6 := Aside0.mk hg6; clear ho6 hb6 hg6)
                    | ((with_reducible refine gate_store (t := 50) (p := 17) rfl ?_); refine arrput_event (k := .u16) (n := 64) (ys := y) rfl rfl rfl rfl rfl (by kernel_rfl) HO6.out ?_; intro w7 ho7 hg7 hb7; have HD7 := Aside0.mk (Bd_below HD5.out (hb7 _ _ HB6.out GA6.out)); have HA7 := Aside0.mk (show w7.heap[ga]? = some (.cells (arrV .u16 64 y) 50 (0, 0)) from (R_arr_heap ho7).1.trans (by rw [show arrPut 64 (List.replicate 64 0) y = arrN 64 y from rfl, arrV_arrN])); clear ho7 hg7 hb7; have AT7 := Aside0.mk (ArrAt_heap HA7.out HYL.out))
                    | ((with_reducible refine gate_dst (N := 93) rfl ?_); refine wpList_load_arr (k := .u16) (n := 64) (t := 50) (e := 49) (xs := y) rfl _ rfl rfl AT7.out Try.underlying50 (by kernel_rfl) ?_)
                    | ((with_reducible refine gate_dst (N := 94) rfl ?_); refine look_event (N := 94) (k := .u16) (n := 64) (m := 58) (t := 50) (e := 49) (e' := 49) (ys := y) (xs := bs) rfl rfl rfl rfl rfl Try.underlying58 Try.underlying50 Try.underlying49 HI49.out (by kernel_rfl) (by kernel_rfl) HD7.out.2.2.2.1 ?_; rw [HFI.out]))
                  clear HO6 HB6 GA6 HA7 AT7
                  obtain ⟨hp, hn, hk, hbi, hle, hb, hil⟩ := HBI.out
                  obtain ⟨ht1, ht2⟩ := Bd_t HD7.out
                  obtain ⟨hi1, hi2⟩ := Bd_i HD7.out p hend
                  rw [← HQ.out] at hi1 hi2
                  have HDS := Aside0.mk (Bd_set HD7.out p (j : Int) hil)
                  have HGK := Aside0.mk (show gk - 1 < gk by omega)
                  have HNW := Aside0.mk (fun (last' : Int) (h : last' = x11 ∨ (last' = (j : Int) ∧ pcs (gv l0 a1) p = List.replicate 64 a1)) => (show ∃ (p' n'' : Nat), x35 + 1 = p' ∧ y12 = n'' ∧ gk - 1 + p' = 17408 ∧ Bi l0 a1 p' n'' last' (idx.set p (j : Int)) bs from ⟨p + 1, n', by omega, hn, by omega, Bi_old hbi hend hle hb HJL.out (by rw [← HY.out]; exact HJ.out.symm) h⟩))
                  clear hp hn hk hbi hle hb hil ht2
                  cases thr
                  case false =>
                    go_wp2_with fail
                    go_roundg (gk - 1)
                    case measure => exact HGK.out
                    case rel =>
                      obtain ⟨p', n'', e1, e2, e3, e4⟩ := HNW.out x11 (.inl rfl)
                      refine ⟨x35 + 1, x11, y12, B, idx.set p (j : Int), bs, rfl, rfl, rfl, ⟨p', n'', e1, e2, e3, e4⟩, ⟨?_⟩⟩
                      rw [HQ.out]
                      exact HDS.out
                  case true =>
                    go_wp2_with fail
                    go_roundg (gk - 1)
                    case measure => exact HGK.out
                    case rel =>
                      obtain ⟨p', n'', e1, e2, e3, e4⟩ := HNW.out (j : Int) (.inr ⟨rfl, HY.out.symm.trans (HTH.out (by first | rfl | trivial))⟩)
                      refine ⟨x35 + 1, (j : Int), y12, B, idx.set p (j : Int), bs, rfl, rfl, rfl, ⟨p', n'', e1, e2, e3, e4⟩, ⟨?_⟩⟩
                      rw [HQ.out]
                      exact HDS.out
                case neg =>
                  have hfi : bs.findIdx? (arrEq 64 y) = none := by rw [find_pcs bs HBL.out.2 y HYL.out, if_neg hmem]
                  have HFI := Aside0.mk hfi
                  clear hfi
                  go_upto_region 21 with (first
                    | ((with_reducible refine gate_dst (N := 17) rfl ?_); refine arrvar_event (k := .u16) (n := 64) (t := 50) rfl (N := 17) rfl rfl (by kernel_rfl) (by decide) (Below.refl _ _) ?_; intro ga w6 ho6 hb6 _ hg6; have HO6 := Aside0.mk ho6; have HB6 := Aside0.mk hb6; have GA6 := Aside0.mk hg6; clear ho6 hb6 hg6)
                    | ((with_reducible refine gate_store (t := 50) (p := 17) rfl ?_); refine arrput_event (k := .u16) (n := 64) (ys := y) rfl rfl rfl rfl rfl (by kernel_rfl) HO6.out ?_; intro w7 ho7 hg7 hb7; have HD7 := Aside0.mk (Bd_below HD5.out (hb7 _ _ HB6.out GA6.out)); have HA7 := Aside0.mk (show w7.heap[ga]? = some (.cells (arrV .u16 64 y) 50 (0, 0)) from (R_arr_heap ho7).1.trans (by rw [show arrPut 64 (List.replicate 64 0) y = arrN 64 y from rfl, arrV_arrN])); clear ho7 hg7 hb7; have AT7 := Aside0.mk (ArrAt_heap HA7.out HYL.out))
                    | ((with_reducible refine gate_dst (N := 93) rfl ?_); refine wpList_load_arr (k := .u16) (n := 64) (t := 50) (e := 49) (xs := y) rfl _ rfl rfl AT7.out Try.underlying50 (by kernel_rfl) ?_)
                    | ((with_reducible refine gate_dst (N := 94) rfl ?_); refine look_event (N := 94) (k := .u16) (n := 64) (m := 58) (t := 50) (e := 49) (e' := 49) (ys := y) (xs := bs) rfl rfl rfl rfl rfl Try.underlying58 Try.underlying50 Try.underlying49 HI49.out (by kernel_rfl) (by kernel_rfl) HD7.out.2.2.2.1 ?_; rw [HFI.out]))
                  obtain ⟨B1, B2, rfl⟩ := Bd_B HD7.out
                  obtain ⟨ht1, ht2⟩ := Bd_t HD7.out
                  go_upto_region 23 with (first
                    | ((with_reducible refine gate_dst (N := 106) rfl ?_); refine wpList_load_arr (k := .u16) (n := 64) (t := 50) (e := 49) (xs := y) rfl _ rfl rfl AT7.out Try.underlying50 (by kernel_rfl) ?_)
                    | ((with_reducible refine gate_mapu (m := 58) rfl ?_); refine put_event (k := .u16) (n := 64) (m := 58) (t := 50) (e := 49) (e' := 49) (ys := y) (xs := bs) rfl rfl rfl rfl rfl (by first | rfl | simp) Try.underlying58 Try.underlying50 Try.underlying49 HI49.out (by kernel_rfl) HD7.out.2.2.2.1 HFI.out ?_; intro w8 hw8; have HD8 := Aside0.mk (hw8 ▸ (Bd_put HD7.out (bs ++ [y])).1); have HA8 := Aside0.mk (hw8 ▸ (Bd_put HD7.out (bs ++ [y])).2 _ _ _ HA7.out); clear hw8; have AT8 := Aside0.mk (ArrAt_heap HA8.out HYL.out)))
                  go_cut [] (fun wc => Aside0 (∃ B' : Value, Bd w wc a1 gt gi gm B' idx (bs ++ [y]) (bs ++ [y])))
                  case first =>
                    clear ht1
                    obtain ⟨cs, hcs⟩ : ∃ cs : List Value, cs = encs (Value.int .u16) y := ⟨_, rfl⟩
                    have hcl : cs.length = 64 := by rw [hcs, encs_length, HYL.out]
                    have hc1 : ∀ v ∈ cs, v.oneCell' = true := by
                      intro v hv
                      rw [hcs] at hv
                      obtain ⟨x, _, rfl⟩ := List.mem_map.1 hv
                      rfl
                    have hisz : (Try.prog.info? 50).map (·.size) = some cs.length := by rw [hcl]; kernel_rfl
                    have hu50 := Try.underlying50
                    have hr50 : w8.rangeAt ga 0 cs := by
                      intro j v hv
                      rw [Nat.zero_add, cell_of_row w8 ga j _ 50 (0, 0) HA8.out, ← Array.getElem?_toList, arrV_encs .u16 HYL.out, ← hcs]
                      exact hv
                    obtain ⟨ht1, ht2⟩ := Bd_t HD8.out
                    have hf2 : w8.frozen? ⟨gt, 2, none⟩ = false := blk_frozen HD8.out.1 2
                    obtain ⟨i50, hi50, hz50, hs50, hb50⟩ := info_parts info50b
                    have HCS := Aside0.mk hcs
                    clear hcs
                    have hown8 := Aside0.mk HD8.out.2.2.1
                    have HR50 := Aside0.mk hr50
                    have hga : ga < w8.heap.size := blk_lt HA8.out
                    have hgt : gt < w8.heap.size := blk_lt HD8.out.1
                    have hgagt : ga ≠ gt := blk_ne HA8.out HD8.out.1 (by decide)
                    have ht2a : ∀ o, (w8.alloc o).cell? ⟨gt, 2, none⟩ = some (.slice B1 bs.length B2) := fun o => (World.cell?_of_block (heap_alloc_old w8 o hgt)).trans ht2
                    have hf2a : ∀ o, (w8.alloc o).frozen? ⟨gt, 2, none⟩ = false := fun o => (World.frozen?_of_block (heap_alloc_old w8 o hgt)).trans hf2
                    have hgtne : some gt ≠ (Value.slice B1 bs.length B2).ownBlock := fun e => by
                      obtain ⟨cells, hc⟩ := own_block_of HD8.out.2.2.1 e.symm
                      exact blk_ne HD8.out.1 hc (by decide) rfl
                    have hgane : (Value.slice B1 bs.length B2).ownBlock ≠ some ga := fun e => by
                      obtain ⟨cells, hc⟩ := own_block_of HD5.out.2.2.1 e
                      exact absurd (blk_lt hc) (by have := GA6.out; omega)
                    refine wp_region_noPanic ?_
                    refine wp_region_held_drew (S := fun w' => w'.rangeAt ga 0 cs) (by kernel_rfl) ?_ (fun hHeld => ?_)
                    · (try dsimp only); first | with_reducible exact range_drew hr50 | with_reducible exact range_drew (range_alloc hr50 hga _) | with_reducible exact range_alloc hr50 hga _ | with_reducible exact range_alloc (range_drew hr50) hga _ | with_reducible exact hr9 | with_reducible exact range_set hr9 hgagt
                    refine wpAnyH_take (i := 0) (v := ?_) rfl (by kernel_rfl) (by kernel_rfl) (by kernel_rfl) (fun _ _ _ h => h) (Or.inl ⟨by rfl, ?_⟩) (by assumption) ?_
                    rotate_left
                    · intro w hSw; (try dsimp only at hSw); go_simp <;> with_reducible rfl
                    (try simp only [Act.put, List.setIfInBounds_toArray, List.set_cons_zero, List.set_cons_succ])
                    refine wpAnyH_take (i := 1) (v := ?_) rfl (by kernel_rfl) (by kernel_rfl) (by kernel_rfl) (fun _ _ _ h => h) (Or.inl ⟨by rfl, ?_⟩) (by assumption) ?_
                    rotate_left
                    · intro w hSw; (try dsimp only at hSw); go_simp <;> with_reducible rfl
                    (try simp only [Act.put, List.setIfInBounds_toArray, List.set_cons_zero, List.set_cons_succ])
                    refine wpAnyH_take (i := 2) (v := ?_) rfl (by kernel_rfl) (by kernel_rfl) (by kernel_rfl) (fun _ _ _ h => h) (Or.inl ⟨by rfl, ?_⟩) (by assumption) ?_
                    rotate_left
                    · intro w hSw; (try dsimp only at hSw); go_simp <;> with_reducible rfl
                    (try simp only [Act.put, List.setIfInBounds_toArray, List.set_cons_zero, List.set_cons_succ])
                    refine wpAnyH_take (i := 3) (v := ?_) rfl (by kernel_rfl) (by kernel_rfl) (by kernel_rfl) (fun _ _ _ h => h) (Or.inl ⟨by rfl, ?_⟩) (by assumption) ?_
                    rotate_left
                    · intro w hSw; (try dsimp only at hSw); go_simp <;> with_reducible rfl
                    (try simp only [Act.put, List.setIfInBounds_toArray, List.set_cons_zero, List.set_cons_succ])
                    refine' wpAnyH_take (i := 5) (v := _) rfl (by kernel_rfl) (by kernel_rfl) (by kernel_rfl) (fun _ _ _ h => h) (yieldsIf_load_mid (by rfl) _ _ rfl _ _ rfl _ _ ?qS ?qu ?qd ?qi) (by assumption) ?qrest
                    case qS => (intro w hSw; (try dsimp only at hSw); go_split_ands; assumption)
                    case qu => assumption
                    case qd => rfl
                    case qi => first | assumption | (simp only [*]; done)
                    (try simp only [Act.put, List.setIfInBounds_toArray, List.set_cons_zero, List.set_cons_succ])
                    refine wpAnyH_ready (rs := [4, 6]) (by kernel_rfl) (by simp) (AllReadyH.cons rfl (fun K hK => ?_) (AllReadyH.cons rfl (fun K hK => ?_) AllReadyH.nil))
                    · go_simp
                      refine hK.out _ _ ?_ (fun hHeld2 => ?_)
                      · (try dsimp only); first | with_reducible exact range_drew hr50 | with_reducible exact range_drew (range_alloc hr50 hga _) | with_reducible exact range_alloc hr50 hga _ | with_reducible exact range_alloc (range_drew hr50) hga _ | with_reducible exact hr9 | with_reducible exact range_set hr9 hgagt
                      clear hK K hHeld; have hHeld := hHeld2; clear hHeld2
                      (try simp only [Act.put, List.setIfInBounds_toArray, List.set_cons_zero, List.set_cons_succ])
                      refine wpAnyH_ready (rs := [6]) (by kernel_rfl) (by simp) (AllReadyH.cons rfl (fun K hK => ?_) AllReadyH.nil)
                      go_simp
                      refine hK.out _ _ ?_ (fun hHeld2 => ?_)
                      · (try dsimp only); first | with_reducible exact range_drew hr50 | with_reducible exact range_drew (range_alloc hr50 hga _) | with_reducible exact range_alloc hr50 hga _ | with_reducible exact range_alloc (range_drew hr50) hga _ | with_reducible exact hr9 | with_reducible exact range_set hr9 hgagt
                      clear hK K hHeld; have hHeld := hHeld2; clear hHeld2
                      (try simp only [Act.put, List.setIfInBounds_toArray, List.set_cons_zero, List.set_cons_succ])
                      refine wpAnyH_ready (rs := [7]) (by kernel_rfl) (by simp) (AllReadyH.cons rfl (fun K hK => ?_) AllReadyH.nil)
                      ((refine step_append_lies _ (by rfl) _ _ _ (by rfl) w.heap.size 50 i50 _ 64 128 Try.underlying44 hi50 hz50 hs50 hb50 rfl (by decide) (.slice B1 bs.length B2) bs.length _ (by rfl) ((hown8.out.alloc _).drew) ⟨w8.heap.size, 0, none⟩ 1 1 cs (by rfl) (by rw [hcl]) (World.news_of_block (cs := cs.toArray) (t := 50) (fr := (0, 0)) ((heap_alloc_new w8 _).trans (by rw [fold_whole _ _ (by rw [hcl]; rfl)]))) hc1 (by decide) (by unfold maxLen; omega) (by omega) (by have := below_size HD8.out.2.2.2.2.1; simp; omega) (w8.heap.size + 1) (by simp) ?_; intro gg cap w9 hown9 hgrow9 hat9 hlt9; have hc9 : w9.cell? ⟨gt, 2, none⟩ = some (.slice B1 bs.length B2) := (hgrow9.cell_far ⟨gt, 2, none⟩ (by simp; omega) hgtne).trans (ht2a _); have hf9 : w9.frozen? ⟨gt, 2, none⟩ = false := (hgrow9.frozen_far ⟨gt, 2, none⟩ (by simp; omega) hgtne).trans (hf2a _); have hr9 : w9.rangeAt ga 0 cs := range_grown (range_drew (range_alloc hr50 hga _)) (by simp; omega) hgrow9 (Ne.symm hgane); have HB9 := Aside0.mk (Bd_app9 HD8.out hgrow9 HCS.out hown9)))
                      refine hK.out _ _ ?_ (fun hHeld2 => ?_)
                      · (try dsimp only); first | with_reducible exact range_drew hr50 | with_reducible exact range_drew (range_alloc hr50 hga _) | with_reducible exact range_alloc hr50 hga _ | with_reducible exact range_alloc (range_drew hr50) hga _ | with_reducible exact hr9 | with_reducible exact range_set hr9 hgagt
                      clear hK K hHeld; have hHeld := hHeld2; clear hHeld2
                      (try simp only [Act.put, List.setIfInBounds_toArray, List.set_cons_zero, List.set_cons_succ])
                      refine wpAnyH_take (i := 8) (v := ?_) rfl (by kernel_rfl) (by kernel_rfl) (by kernel_rfl) (fun _ _ _ h => h) (Or.inl ⟨by rfl, ?_⟩) (by assumption) ?_
                      rotate_left
                      · intro w hSw; (try dsimp only at hSw); go_simp <;> with_reducible rfl
                      (try simp only [Act.put, List.setIfInBounds_toArray, List.set_cons_zero, List.set_cons_succ])
                      refine wpAnyH_take (i := 9) (v := ?_) rfl (by kernel_rfl) (by kernel_rfl) (by kernel_rfl) (fun _ _ _ h => h) (Or.inl ⟨by rfl, ?_⟩) (by assumption) ?_
                      rotate_left
                      · intro w hSw; (try dsimp only at hSw); go_simp <;> with_reducible rfl
                      (try simp only [Act.put, List.setIfInBounds_toArray, List.set_cons_zero, List.set_cons_succ])
                      refine wpAnyH_ready (rs := [10]) (by kernel_rfl) (by simp) (AllReadyH.cons rfl (fun K hK => ?_) AllReadyH.nil)
                      go_simp
                      refine hK.out _ _ ?_ (fun hHeld2 => ?_)
                      · (try dsimp only); first | with_reducible exact range_drew hr50 | with_reducible exact range_drew (range_alloc hr50 hga _) | with_reducible exact range_alloc hr50 hga _ | with_reducible exact range_alloc (range_drew hr50) hga _ | with_reducible exact hr9 | with_reducible exact range_set hr9 hgagt
                      clear hK K hHeld; have hHeld := hHeld2; clear hHeld2
                      (try simp only [Act.put, List.setIfInBounds_toArray, List.set_cons_zero, List.set_cons_succ])
                      refine wpAnyH_done (by kernel_rfl) ?_ _
                      refine NoPanic.normal ?_
                      go_wp2_with fail; go_meet; case rel => exact ⟨_, HB9.out⟩
                    · go_simp
                      refine hK.out _ _ ?_ (fun hHeld2 => ?_)
                      · (try dsimp only); first | with_reducible exact range_drew hr50 | with_reducible exact range_drew (range_alloc hr50 hga _) | with_reducible exact range_alloc hr50 hga _ | with_reducible exact range_alloc (range_drew hr50) hga _ | with_reducible exact hr9 | with_reducible exact range_set hr9 hgagt
                      clear hK K hHeld; have hHeld := hHeld2; clear hHeld2
                      (try simp only [Act.put, List.setIfInBounds_toArray, List.set_cons_zero, List.set_cons_succ])
                      refine wpAnyH_ready (rs := [4]) (by kernel_rfl) (by simp) (AllReadyH.cons rfl (fun K hK => ?_) AllReadyH.nil)
                      go_simp
                      refine hK.out _ _ ?_ (fun hHeld2 => ?_)
                      · (try dsimp only); first | with_reducible exact range_drew hr50 | with_reducible exact range_drew (range_alloc hr50 hga _) | with_reducible exact range_alloc hr50 hga _ | with_reducible exact range_alloc (range_drew hr50) hga _ | with_reducible exact hr9 | with_reducible exact range_set hr9 hgagt
                      clear hK K hHeld; have hHeld := hHeld2; clear hHeld2
                      (try simp only [Act.put, List.setIfInBounds_toArray, List.set_cons_zero, List.set_cons_succ])
                      refine wpAnyH_ready (rs := [7]) (by kernel_rfl) (by simp) (AllReadyH.cons rfl (fun K hK => ?_) AllReadyH.nil)
                      ((refine step_append_lies _ (by rfl) _ _ _ (by rfl) w.heap.size 50 i50 _ 64 128 Try.underlying44 hi50 hz50 hs50 hb50 rfl (by decide) (.slice B1 bs.length B2) bs.length _ (by rfl) ((hown8.out.alloc _).drew) ⟨w8.heap.size, 0, none⟩ 1 1 cs (by rfl) (by rw [hcl]) (World.news_of_block (cs := cs.toArray) (t := 50) (fr := (0, 0)) ((heap_alloc_new w8 _).trans (by rw [fold_whole _ _ (by rw [hcl]; rfl)]))) hc1 (by decide) (by unfold maxLen; omega) (by omega) (by have := below_size HD8.out.2.2.2.2.1; simp; omega) (w8.heap.size + 1) (by simp) ?_; intro gg cap w9 hown9 hgrow9 hat9 hlt9; have hc9 : w9.cell? ⟨gt, 2, none⟩ = some (.slice B1 bs.length B2) := (hgrow9.cell_far ⟨gt, 2, none⟩ (by simp; omega) hgtne).trans (ht2a _); have hf9 : w9.frozen? ⟨gt, 2, none⟩ = false := (hgrow9.frozen_far ⟨gt, 2, none⟩ (by simp; omega) hgtne).trans (hf2a _); have hr9 : w9.rangeAt ga 0 cs := range_grown (range_drew (range_alloc hr50 hga _)) (by simp; omega) hgrow9 (Ne.symm hgane); have HB9 := Aside0.mk (Bd_app9 HD8.out hgrow9 HCS.out hown9)))
                      refine hK.out _ _ ?_ (fun hHeld2 => ?_)
                      · (try dsimp only); first | with_reducible exact range_drew hr50 | with_reducible exact range_drew (range_alloc hr50 hga _) | with_reducible exact range_alloc hr50 hga _ | with_reducible exact range_alloc (range_drew hr50) hga _ | with_reducible exact hr9 | with_reducible exact range_set hr9 hgagt
                      clear hK K hHeld; have hHeld := hHeld2; clear hHeld2
                      (try simp only [Act.put, List.setIfInBounds_toArray, List.set_cons_zero, List.set_cons_succ])
                      refine wpAnyH_take (i := 8) (v := ?_) rfl (by kernel_rfl) (by kernel_rfl) (by kernel_rfl) (fun _ _ _ h => h) (Or.inl ⟨by rfl, ?_⟩) (by assumption) ?_
                      rotate_left
                      · intro w hSw; (try dsimp only at hSw); go_simp <;> with_reducible rfl
                      (try simp only [Act.put, List.setIfInBounds_toArray, List.set_cons_zero, List.set_cons_succ])
                      refine wpAnyH_take (i := 9) (v := ?_) rfl (by kernel_rfl) (by kernel_rfl) (by kernel_rfl) (fun _ _ _ h => h) (Or.inl ⟨by rfl, ?_⟩) (by assumption) ?_
                      rotate_left
                      · intro w hSw; (try dsimp only at hSw); go_simp <;> with_reducible rfl
                      (try simp only [Act.put, List.setIfInBounds_toArray, List.set_cons_zero, List.set_cons_succ])
                      refine wpAnyH_ready (rs := [10]) (by kernel_rfl) (by simp) (AllReadyH.cons rfl (fun K hK => ?_) AllReadyH.nil)
                      go_simp
                      refine hK.out _ _ ?_ (fun hHeld2 => ?_)
                      · (try dsimp only); first | with_reducible exact range_drew hr50 | with_reducible exact range_drew (range_alloc hr50 hga _) | with_reducible exact range_alloc hr50 hga _ | with_reducible exact range_alloc (range_drew hr50) hga _ | with_reducible exact hr9 | with_reducible exact range_set hr9 hgagt
                      clear hK K hHeld; have hHeld := hHeld2; clear hHeld2
                      (try simp only [Act.put, List.setIfInBounds_toArray, List.set_cons_zero, List.set_cons_succ])
                      refine wpAnyH_done (by kernel_rfl) ?_ _
                      refine NoPanic.normal ?_
                      go_wp2_with fail; go_meet; case rel => exact ⟨_, HB9.out⟩
                  case rest =>
                    clear HD7 HA7 AT7 HD8 HA8 AT8 HO6 HB6 GA6
                    obtain ⟨B', HD9⟩ := hcut.out
                    clear hcut
                    have HD9 := Aside0.mk HD9
                    obtain ⟨hp, hn, hk, hbi, hle, hb, hil⟩ := HBI.out
                    obtain ⟨ht1, ht2⟩ := Bd_t HD9.out
                    obtain ⟨hi1, hi2⟩ := Bd_i HD9.out p hend
                    rw [← HQ.out] at hi1 hi2
                    have HDS := Aside0.mk (Bd_set HD9.out p (bs.length : Int) hil)
                    have HGK := Aside0.mk (show gk - 1 < gk by omega)
                    have HNW := Aside0.mk (fun (last' : Int) (h : last' = x11 ∨ (last' = (bs.length : Int) ∧ pcs (gv l0 a1) p = List.replicate 64 a1)) => (show ∃ (p' n'' : Nat), x35 + 1 = p' ∧ y12 = n'' ∧ gk - 1 + p' = 17408 ∧ Bi l0 a1 p' n'' last' (idx.set p (bs.length : Int)) (bs ++ [y]) from ⟨p + 1, n', by omega, hn, by omega, by rw [HY.out] at hmem ⊢; exact Bi_new hbi hend hle hb hmem h⟩))
                    clear hp hn hk hbi hle hb hil ht2
                    cases thr
                    case false =>
                      go_wp2_with fail
                      go_roundg (gk - 1)
                      case measure => exact HGK.out
                      case rel =>
                        obtain ⟨p', n'', e1, e2, e3, e4⟩ := HNW.out x11 (.inl rfl)
                        refine ⟨x35 + 1, x11, y12, B', idx.set p (bs.length : Int), bs ++ [y], rfl, rfl, rfl, ⟨p', n'', e1, e2, e3, e4⟩, ⟨?_⟩⟩
                        rw [HQ.out]
                        exact HDS.out
                    case true =>
                      go_wp2_with fail
                      go_roundg (gk - 1)
                      case measure => exact HGK.out
                      case rel =>
                        obtain ⟨p', n'', e1, e2, e3, e4⟩ := HNW.out (bs.length : Int) (.inr ⟨rfl, HY.out.symm.trans (HTH.out (by first | rfl | trivial))⟩)
                        refine ⟨x35 + 1, (bs.length : Int), y12, B', idx.set p (bs.length : Int), bs ++ [y], rfl, rfl, rfl, ⟨p', n'', e1, e2, e3, e4⟩, ⟨?_⟩⟩
                        rw [HQ.out]
                        exact HDS.out

end Go.Proofs.Ytiaodapgankjnaa.Q
