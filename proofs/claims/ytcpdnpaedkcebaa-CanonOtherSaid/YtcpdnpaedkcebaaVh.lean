/- A small calculus over the model, eight: rows that are made, and appended to. -/
import Derived.Test.YtcpdnpaedkcebaaVg
namespace Go.Proofs.Ytcpdnpaedkcebaa.V
open Go Go.RowKit
set_option linter.unusedVariables false
set_option linter.unusedSimpArgs false

section
variable {P : Program} {C : Ctx} {ι : Nat → Loc} {S : Nat → Prop} {σ : Slots} {H : LH} {a : Act} {w : World} {o : Oper} {K : AV → List (Nat × LObj) → Prop} {g : Prop} {u : Nat}

theorem rowNew {w' : World} {S : Nat → Prop} {cells : Array Value} {t : TypeId} {fz : Nat × Nat} (hh : w'.heap = w.heap.push (.cells cells t fz)) {e : Nat} {xs : List CV} {cap : Nat}
    (hcap : xs.length ≤ cap) (hwf : ∀ x ∈ xs, x.wf e) (hsz : cap * e ≤ cells.size) (hfz : fz = (0, 0) ∨ cap * e ≤ fz.1)
    (hv : ∀ i j, i < xs.length → j < e → VR w S ((xs.getD i .undef).cells.getD j .undef) (cells.getD (i * e + j) Go.undef)) :
    RowR ⟨w.heap.size, 0, cap, false⟩ S w' e xs := by
  unfold RowR
  rw [if_neg (by simp)]
  refine ⟨hcap, hwf, fun k hk => ?_, fun i j hi hj => ?_⟩
  · have hk : k < cap * e := hk
    simp only [Nat.zero_add]
    refine ⟨?_, ?_⟩
    · rw [cell_new hh k]
      have : k < cells.size := by omega
      exact ⟨_, Array.getElem?_eq_getElem this⟩
    · simp only [World.frozen?, hh, Array.getElem?_push_size]
      obtain ⟨lo, hi⟩ := fz
      rcases hfz with hfz | hfz
      · injection hfz with h1 h2
        subst h1; subst h2
        simp
      · have : ¬ lo ≤ k := by simp only at hfz; omega
        simp [this]
  · have hlt : i * e + j < cells.size := by
      have : (i + 1) * e ≤ cap * e := Nat.mul_le_mul_right _ (by omega)
      rw [Nat.add_mul] at this
      omega
    refine ⟨cells.getD (i * e + j) Go.undef, ?_, (hv i j hi hj).mono fun b p x hs hx => ⟨hs, cell_push hh hx⟩⟩
    simp only [Nat.zero_add]
    rw [cell_new hh]
    simp [hlt]

theorem mk_row (h : R C ι S σ H a w) (hf : fresh H u) {w' : World} {cells : Array Value} {t : TypeId} {fz : Nat × Nat} (hh : w'.heap = w.heap.push (.cells cells t fz))
    (ho : w'.os = w.os) (ht : w'.tape = w.tape) (hp : w'.output = w.output) {e : Nat} {xs : List CV} {cap : Nat}
    (hcap : xs.length ≤ cap) (hwf : ∀ x ∈ xs, x.wf e) (hsz : cap * e ≤ cells.size) (hfz : fz = (0, 0) ∨ cap * e ≤ fz.1)
    (hv : ∀ i j, i < xs.length → j < e → VR w S ((xs.getD i .undef).cells.getD j .undef) (cells.getD (i * e + j) Go.undef)) :
    ∃ ι', R C ι' S σ (LH.sets H [(64 * u, .row e xs)]) a w' ∧ AVR ι' (LH.sets H [(64 * u, .row e xs)]) S w' (.osl (64 * u) 0 xs.length) (.slice (some ⟨w.heap.size, 0, none⟩) xs.length cap) := by
  obtain ⟨hn, hlt⟩ := fresh_none hf (k := 0) (by omega)
  rw [Nat.add_zero] at hn hlt
  have hget : LH.get (LH.set H (64 * u) (.row e xs)) (64 * u) = some (.row e xs) := by rw [LH.get_set, if_pos rfl]
  refine ⟨updL ι (64 * u) ⟨w.heap.size, 0, cap, false⟩, ?_, .osl _ _ _ _ ?_⟩
  · refine h.new (64 * u) hn hlt ⟨w.heap.size, 0, cap, false⟩ (fun _ => rfl) _ (.row e xs) (by simp) (.inl hh) ho ht hp ?_
    unfold NewAt
    rw [hget, updL_same]
    exact rowNew hh hcap hwf hsz hfz hv
  · unfold OslOK
    simp only [LH.sets]
    rw [hget]
    refine ⟨by simp, ?_⟩
    rw [updL_same]
    unfold SliceAt
    rw [if_neg (by simp)]
    left
    simp

def listOK : Nat → List (Nat × Operand) → List Opd → Bool
  | _, [], [] => true
  | k, (i, x) :: l, y :: l' => i == k && chkOpd x y && listOK (k + 1) l l'
  | _, _, _ => false

def chkBsl (P : Program) (t : TypeId) (len : Nat) (esz : Nat) (ps : List (Nat × Operand)) (ps' : List Opd) : Bool :=
  match P.underlying t with
  | some (.slice e) =>
    match P.info? e with
    | some ie => ie.zero.isSome && ie.size == esz && decide (0 < esz) && len == ps'.length && decide (0 < len) && decide (len * esz ≤ 2 ^ 24) && listOK 0 ps ps'
    | none => false
  | _ => false

theorem listOK_spec (h : R C ι S σ H a w) : ∀ (k : Nat) (ps : List (Nat × Operand)) (ps' : List Opd) (vs : List CV), listOK k ps ps' = true → ps'.map (val σ) = vs.map .c →
    ∃ us : List Value, us.length = vs.length ∧ (ps.map fun x => (x.1, a.eval x.2)) = (us.zipIdx k).map (fun x => (x.2, x.1)) ∧ ∀ i, i < vs.length → VR w S (vs.getD i .undef) (us.getD i Go.undef)
  | k, [], [], vs, _, hv => by
    have : vs = [] := by cases vs with | nil => rfl | cons => simp at hv
    subst this
    exact ⟨[], rfl, rfl, fun i hi => by simp at hi⟩
  | k, (i, x) :: l, y :: l', vs, hp, hv => by
    simp only [listOK, Bool.and_eq_true, beq_iff_eq] at hp
    obtain ⟨⟨rfl, hc⟩, hr⟩ := hp
    cases vs with
    | nil => simp at hv
    | cons v vs =>
      simp only [List.map_cons, List.cons.injEq] at hv
      obtain ⟨us, h1, h2, h3⟩ := listOK_spec h (i + 1) l l' vs hr hv.2
      have hx := ev h hc
      rw [hv.1] at hx
      refine ⟨a.eval x :: us, by simp [h1], by simp [List.zipIdx_cons, h2], fun j hj => ?_⟩
      cases j with
      | zero => exact avr_c hx
      | succ j => exact h3 j (by simpa using hj)

theorem sum_const (c : Nat) : ∀ l : List Value, (l.map fun _ => c).sum = l.length * c
  | [] => by simp
  | x :: l => by rw [List.map_cons, List.sum_cons, sum_const c l, List.length_cons, Nat.add_mul]; omega

theorem res_bsl (h : R C ι S σ H a w) {t : TypeId} {len : Nat} {parts : Array (Nat × Operand)} {esz : Nat} {ps' : List Opd} (ho : o.op = .buildSlice t len parts) (hc : chkBsl P t len esz parts.toList ps' = true)
    (hw : opW P g σ H u (.bsl esz ps') K) : Res P C σ H a w o K := by
  obtain ⟨vs, hvs, ⟨hf, hwf⟩, hK⟩ := closedW_spec hw
  unfold chkBsl at hc
  split at hc
  · rename_i e hu
    split at hc
    · rename_i ie hie
      simp only [Bool.and_eq_true, beq_iff_eq, decide_eq_true_eq] at hc
      obtain ⟨⟨⟨⟨⟨⟨hz, rfl⟩, h0⟩, rfl⟩, hpos⟩, hsm⟩, hl⟩ := hc
      obtain ⟨us, hul, hparts, huv⟩ := listOK_spec h 0 _ _ vs hl hvs
      have hlen : ps'.length = vs.length := by have := congrArg List.length hvs; simpa using this
      obtain ⟨zv, hzv⟩ := Option.isSome_iff_exists.1 hz
      have hcs : ∀ x ∈ us, x.cells.size = ie.size := by
        intro x hx
        obtain ⟨i, hi, rfl⟩ := List.getElem_of_mem hx
        have hv := huv i (by omega)
        have hm := hwf _ (getD_mem (xs := vs) (i := i) (by omega))
        have := (hv.cells hm.2).1
        rw [hm.1.1] at this
        simpa [List.getD_eq_getElem?_getD, hi] using this
      have hfill := Great.fill_whole (s := ie.size) h0 us ((Array.range (ps'.length * ie.size)).map (zv.cells[· % zv.cells.size]!)) hcs (by simp [hlen, hul])
      have hrun := run_buildSlice (P := P) w t e ps'.length (parts.map fun (i, x) => (i, a.eval x)) _ ie zv hu hie hzv (by omega) (by have := Nat.mul_pos hpos h0; omega) (by
        rw [← hfill, ← hparts]; simp)
      have hflat := Great.flat_get h0 us hcs
      have hlenf : (us.flatMap fun v => v.cells.toList).length = us.length * ie.size := by
        rw [List.length_flatMap]
        have : us.map (fun v => v.cells.toList.length) = us.map (fun _ => ie.size) := List.map_congr_left (fun x hx => by simpa using hcs x hx)
        rw [this]; exact sum_const ie.size us
      obtain ⟨ι', hR, hv⟩ := mk_row (u := u) (cells := (us.flatMap fun v => v.cells.toList).toArray) (t := e) (fz := (0, 0)) h hf (w' := w.alloc (.cells (us.flatMap fun v => v.cells.toList).toArray e)) rfl rfl rfl rfl (e := ie.size) (xs := vs) (cap := vs.length)
        (Nat.le_refl _) (fun x hx => (hwf x hx).1) (by rw [List.size_toArray, hlenf, hul]; exact Nat.le_refl _) (.inl rfl) (fun i j hi hj => by
          have hv := huv i hi
          have hm := hwf _ (getD_mem (xs := vs) hi)
          have := (hv.cells hm.2).2 j (by rw [hm.1.1]; exact hj)
          have e1 : ((us.flatMap fun v => v.cells.toList).toArray).getD (i * ie.size + j) Go.undef = (us.getD i Go.undef).cells.getD j Go.undef := by
            have hfl := hflat (i * ie.size + j)
            have d1 : (i * ie.size + j) / ie.size = i := by rw [Nat.mul_comm, Nat.mul_add_div h0, Nat.div_eq_of_lt hj, Nat.add_zero]
            have d2 : (i * ie.size + j) % ie.size = j := by rw [Nat.mul_comm, Nat.mul_add_mod, Nat.mod_eq_of_lt hj]
            rw [d1, d2] at hfl
            have hiu : i < us.length := by omega
            rw [List.getElem?_eq_getElem hiu, Option.bind_some] at hfl
            have e2 : us.getD i Go.undef = us[i] := by simp [List.getD_eq_getElem?_getD, hiu]
            rw [e2]
            have e3 : ∀ (l : List Value) (k : Nat), l.toArray.getD k Go.undef = l[k]?.getD Go.undef := fun l k => by simp
            rw [e3, hfl]
            simp
          rw [e1]; exact this)
      refine ⟨_, _, _, ι', S, _, _, ?_, .inl rfl, hK, hR, hv⟩
      simp only [execOp, ho]
      refine runV ?_
      rw [hrun, hlen]
    · cases hc
  · cases hc

def chkMks (P : Program) (t : TypeId) (l c : Operand) (n : Nat) (z : CV) : Bool :=
  match P.underlying t with
  | some (.slice e) =>
    match P.info? e with
    | some ie =>
      match ie.zero with
      | some zv => decide (ie.size = 1) && decide (zv.cells.size = 1) && constOK (zv.cells.getD 0 Go.undef) z && decide (0 < n) && decide (n < 1000) && decide (ie.bytes < 1000) &&
        (match l, c with
         | .const (.int .i64 a), .const (.int .i64 b) => decide (a = n) && decide (b = n)
         | _, _ => false)
      | none => false
    | none => false
  | _ => false
theorem res_mks (h : R C ι S σ H a w) {t : TypeId} {l c : Operand} {n : Nat} {z : CV} (ho : o.op = .makeSlice t l c) (hc : chkMks P t l c n z = true)
    (hw : opW P g σ H u (.mks n z) K) : Res P C σ H a w o K := by
  obtain ⟨hf, hK⟩ := hw
  unfold chkMks at hc
  split at hc
  case h_2 => cases hc
  rename_i e hu
  split at hc
  case h_2 => cases hc
  rename_i ie hie
  split at hc
  case h_2 => cases hc
  rename_i zv hzv
  simp only [Bool.and_eq_true, decide_eq_true_eq] at hc
  obtain ⟨⟨⟨⟨⟨⟨hs, hz1⟩, hz⟩, hn⟩, hnb⟩, hb⟩, hlc⟩ := hc
  split at hlc
  case h_2 => cases hlc
  rename_i p q
  simp only [Bool.and_eq_true, decide_eq_true_eq] at hlc
  obtain ⟨rfl, rfl⟩ := hlc
  have hrun := run_makeSlice (P := P) w t e ie zv hu hie hzv .i64 .i64 (n : Int) (n : Int) (by omega) (by omega) (by rw [hs]; omega) (by
    have : (ie.bytes : Int) * n ≤ 1000 * 1000 := Int.mul_le_mul (by omega) (by omega) (by omega) (by omega)
    omega) (by omega)
  simp only [Int.toNat_natCast, hs, Nat.mul_one] at hrun
  have hone : z.one = true := constOK_one hz
  have hzl : z.cells.length = 1 := by rw [one_cells hone]; rfl
  obtain ⟨ι', hR, hv⟩ := mk_row (u := u) (cells := madeCells zv.cells n) (t := e) (fz := (0, 0)) h hf (w' := w.alloc (.cells (madeCells zv.cells n) e)) rfl rfl rfl rfl (e := 1) (xs := List.replicate n z) (cap := n)
    (by simp) (fun x hx => by
      have : x = z := List.eq_of_mem_replicate hx
      subst this
      exact ⟨hzl, fun c hc => by rw [one_cells hone] at hc; simp at hc; rw [hc]; exact hone⟩)
    (by rw [size_madeCells]; omega) (.inl rfl) (fun i j hi hj => by
      have hj0 : j = 0 := by omega
      subst hj0
      simp only [List.length_replicate] at hi
      have e1 : (List.replicate n z).getD i .undef = z := by simp [List.getD_eq_getElem?_getD, hi]
      rw [e1, one_cells hone, Nat.mul_one, Nat.add_zero]
      have e2 : (madeCells zv.cells n).getD i Go.undef = zv.cells.getD 0 Go.undef := by
        simp [madeCells, hi, hz1, Nat.mod_one]
      rw [e2]
      exact constOK_vr hz)
  have hv' : AVR ι' (LH.sets H [(64 * u, .row 1 (List.replicate n z))]) S (w.alloc (.cells (madeCells zv.cells n) e)) (.osl (64 * u) 0 n) (.slice (some ⟨w.heap.size, 0, none⟩) n n) := by simpa using hv
  refine ⟨_, _, _, ι', S, _, _, ?_, .inl rfl, hK, hR, hv'⟩
  simp only [execOp, ho]
  exact runV hrun

theorem choose_append (need old : Nat) (e : TypeId) : (choose (.appendCap need old e)).run P w = .ok (grownCap w need old e) w.drew := by
  simp [choose, Sem.run, Question.forced, grownCap]

/-- append, told by what its parts come to: there is room. -/
theorem run_app_room {t xt ty e : TypeId} {i : TypeInfo} (ht : P.underlying t = some (.slice e)) (hi : P.info? e = some i) (hx : (∃ e2, P.underlying xt = some (.slice e2)) ∨ P.underlying xt = some .string)
    (p : Option Addr) (sLen sCap n : Nat) (x : Value) (hn : (Builtin.lenOf x).run P w = .ok n w) (news : Array Value) (hf : (Builtin.firstCells i.size n x).run P w = .ok news w)
    (hroom : sLen + n ≤ sCap) {w' : World} (hst : ∀ ad, p = some ad → (storeCells (ad.add (sLen * i.size)) news.toList).run P w = .ok () w') (hp : p = none → w' = w) :
    (Builtin.append_ #[t, xt] ty #[.slice p sLen sCap, x]).run P w = .ok (.slice p (sLen + n) sCap) w' := by
  rcases hx with ⟨e2, hd⟩ | hd
  all_goals
    cases p with
    | none =>
      have := hp rfl
      subst this
      simp [Builtin.append_, run_underlying ht, run_underlying hd, sizeOf, typeInfo, hi, hn, hf, hroom, pure, Sem.run]
    | some ad =>
      have hst := hst ad rfl
      simp [Builtin.append_, run_underlying ht, run_underlying hd, sizeOf, typeInfo, hi, hn, hf, hroom, hst, pure, Sem.run]

/-- append where a new row is made. -/
theorem run_app_grow {t xt ty e : TypeId} {i : TypeInfo} {z : Value} (ht : P.underlying t = some (.slice e)) (hi : P.info? e = some i) (hzv : i.zero = some z) (hx : (∃ e2, P.underlying xt = some (.slice e2)) ∨ P.underlying xt = some .string)
    (p : Option Addr) (sLen sCap n : Nat) (x : Value) (hn : (Builtin.lenOf x).run P w = .ok n w) (olds news : Array Value)
    (ho : (Builtin.firstCells i.size sLen (.slice p sLen sCap)).run P w.drew = .ok olds w.drew) (hf : (Builtin.firstCells i.size n x).run P w.drew = .ok news w.drew)
    (hroom : sCap < sLen + n) (h63 : ¬ (9223372036854775807 < ((sLen + n : Nat) : Int))) (hfit : Builtin.nextslicecap (sLen + n) sCap * i.bytes ≤ 281474976710656) :
    (Builtin.append_ #[t, xt] ty #[.slice p sLen sCap, x]).run P w = .ok (.slice (some ⟨w.heap.size, 0, none⟩) (sLen + n) (grownCap w (sLen + n) sCap e))
      (w.drew.alloc (.cells (olds ++ news ++ Builtin.zeroCells z.cells (grownCap w (sLen + n) sCap e - (sLen + n))) e)) := by
  have hroom' : ¬ sLen + n ≤ sCap := by omega
  have hfit' : ¬ 281474976710656 < Builtin.nextslicecap (sLen + n) sCap * i.bytes := by omega
  have h63' : ¬ (9223372036854775807 : Int) < (sLen : Int) + (n : Int) := by omega
  have hask : ∀ b w', (askRoom b).run P w' = .ok () w' := fun b w' => by unfold askRoom; split <;> simp [mark, pure, Sem.run]
  rcases hx with ⟨e2, hd⟩ | hd
  all_goals
    simp [Builtin.append_, run_underlying ht, run_underlying hd, sizeOf, typeInfo, hi, hn, hf, ho, hroom', hfit', h63', hask, zeroValue, hzv, newRow, newObj, pure, Sem.run, choose, Question.forced, grownCap]

theorem cell_heap {w w' : World} (hh : w'.heap = w.heap) (x : Addr) : w'.cell? x = w.cell? x := by simp [World.cell?, hh]

/-- So many cells, loaded. -/
theorem load_list {w : World} {b o n : Nat} (xs : List Value) (hl : xs.length = n) (hc : ∀ k, k < n → w.cell? ⟨b, o + k, none⟩ = some (xs.getD k Go.undef)) {w' : World} (hh : w'.heap = w.heap) :
    (loadCells ⟨b, o, none⟩ n).run P w' = .ok xs.toArray w' := by
  have := run_loadCells_list (P := P) w' ⟨b, o, none⟩ xs (fun j v hv => by
    have hj : j < xs.length := (List.getElem?_eq_some_iff.1 hv).1
    rw [cell_heap hh, addr_add, hc j (by omega), List.getD_eq_getElem?_getD, hv]; rfl)
  rw [hl] at this
  exact this

theorem grid {n e : Nat} (he : 0 < e) {Q : Nat → Nat → Value → Prop} (h : ∀ i j, i < n → j < e → ∃ y, Q i j y) :
    ∃ ys : List Value, ys.length = n * e ∧ ∀ i j, i < n → j < e → Q i j (ys.getD (i * e + j) Go.undef) := by
  obtain ⟨ys, hl, hy⟩ := exists_list (n := n * e) (Q := fun k y => Q (k / e) (k % e) y) (fun k hk => h _ _ ((Nat.div_lt_iff_lt_mul he).2 hk) (Nat.mod_lt _ he))
  refine ⟨ys, hl, fun i j hi hj => ?_⟩
  have hlt : i * e + j < n * e := by
    have : (i + 1) * e ≤ n * e := Nat.mul_le_mul_right _ hi
    rw [Nat.add_mul] at this; omega
  have := hy (i * e + j) hlt
  have d1 : (i * e + j) / e = i := by rw [Nat.mul_comm, Nat.mul_add_div he, Nat.div_eq_of_lt hj, Nat.add_zero]
  have d2 : (i * e + j) % e = j := by rw [Nat.mul_comm, Nat.mul_add_mod, Nat.mod_eq_of_lt hj]
  rw [d1, d2] at this
  exact this
theorem ungrid {n e : Nat} (he : 0 < e) {Q : Nat → Prop} (h : ∀ i j, i < n → j < e → Q (i * e + j)) : ∀ k, k < n * e → Q k := by
  intro k hk
  have := h (k / e) (k % e) ((Nat.div_lt_iff_lt_mul he).2 hk) (Nat.mod_lt _ he)
  rwa [Nat.mul_comm, Nat.div_add_mod] at this

/-- What append is handed: so many elements, so many cells. -/
structure Items (P : Program) (S : Nat → Prop) (w : World) (e : Nat) (x : Value) (ys : List CV) (news : List Value) : Prop where
  wf : ∀ y ∈ ys, y.wf e
  len : news.length = ys.length * e
  vr : ∀ i j, i < ys.length → j < e → VR w S ((ys.getD i .undef).cells.getD j .undef) (news.getD (i * e + j) Go.undef)
  one : ∀ v ∈ news, v.oneCell' = true
  lenOf : (Builtin.lenOf x).run P w = .ok ys.length w
  first : ∀ w' : World, w'.heap = w.heap → (Builtin.firstCells e ys.length x).run P w' = .ok news.toArray w'

theorem items_one {w : World} {e : Nat} (he : 0 < e) {ys : List CV} {news : List Value} (hwf : ∀ y ∈ ys, y.wf e) (hl : news.length = ys.length * e)
    (hv : ∀ i j, i < ys.length → j < e → VR w S ((ys.getD i .undef).cells.getD j .undef) (news.getD (i * e + j) Go.undef)) : ∀ v ∈ news, v.oneCell' = true := by
  intro v hv1
  obtain ⟨k, hk, rfl⟩ := List.getElem_of_mem hv1
  refine ungrid (n := ys.length) he (Q := fun k => ∀ hk : k < news.length, (news[k]).oneCell' = true) (fun i j hi hj hk => ?_) k (by omega) hk
  have h1 := hv i j hi hj
  have e1 : news.getD (i * e + j) Go.undef = news[i * e + j] := by simp [List.getD_eq_getElem?_getD, hk]
  rw [e1] at h1
  have hw := hwf _ (getD_mem hi)
  exact (h1.oneCell (hw.2 _ (getD_mem (xs := (ys.getD i .undef).cells) (by rw [hw.1]; exact hj)))).2

theorem items_sl {w : World} {e : Nat} (he : 0 < e) {xs : List CV} {x : Value} (hx : (xs = [] ∧ ∃ p c, x = .slice p 0 c) ∨ ∃ b o c, x = .slice (some ⟨b, o, none⟩) xs.length c ∧ (∀ y ∈ xs, y.wf e) ∧
      ∀ i j, i < xs.length → j < e → ∃ y, w.cell? ⟨b, o + (i * e + j), none⟩ = some y ∧ VR w S ((xs.getD i .undef).cells.getD j .undef) y) :
    ∃ news, Items P S w e x xs news := by
  rcases hx with ⟨rfl, p, c, rfl⟩ | ⟨b, o, c, rfl, hwf, hc⟩
  · refine ⟨[], fun y hy => (by cases hy), (by simp), fun i j hi => (by simp at hi), fun v hv => (by cases hv), by simp [Builtin.lenOf, pure, Sem.run], fun w' _ => ?_⟩
    cases p <;> simp [Builtin.firstCells, loadCells, loadCellsFrom, pure, Sem.run]
  · obtain ⟨news, hl, hq⟩ := grid (n := xs.length) he (Q := fun i j y => w.cell? ⟨b, o + (i * e + j), none⟩ = some y ∧ VR w S ((xs.getD i .undef).cells.getD j .undef) y) hc
    have hcell : ∀ k, k < xs.length * e → w.cell? ⟨b, o + k, none⟩ = some (news.getD k Go.undef) := ungrid he (fun i j hi hj => (hq i j hi hj).1)
    refine ⟨news, hwf, hl, fun i j hi hj => (hq i j hi hj).2, items_one he hwf hl (fun i j hi hj => (hq i j hi hj).2), by simp [Builtin.lenOf, pure, Sem.run], fun w' hh => ?_⟩
    simp only [Builtin.firstCells]
    exact load_list news hl hcell hh

theorem items_str {w : World} (s : ByteArray) : ∃ news, Items P S w 1 (.string s) (strCells s) news := by
  have hlen : (strCells s).length = s.size := by simp [strCells]
  have hv : ∀ i j, i < (strCells s).length → j < 1 → VR w S (((strCells s).getD i .undef).cells.getD j .undef) (((s.data.toList.map fun b => Value.int .u8 b.toNat)).getD (i * 1 + j) Go.undef) := by
    intro i j hi hj
    have : j = 0 := by omega
    subst this
    have hi' : i < s.data.size := by rw [hlen] at hi; exact hi
    simp only [strCells, List.getD_eq_getElem?_getD, List.getElem?_map, Nat.mul_one, Nat.add_zero, Array.getElem?_toList]
    rw [Array.getElem?_eq_getElem hi']
    exact .int _ _
  have hwf : ∀ y ∈ strCells s, y.wf 1 := by
    intro y hy
    obtain ⟨b, _, rfl⟩ := List.mem_map.1 hy
    exact ⟨rfl, fun c hc => by simp [u8, CV.cells] at hc; rw [hc]; rfl⟩
  refine ⟨s.data.toList.map fun b => .int .u8 b.toNat, hwf, by simp [hlen], hv, items_one (by omega) hwf (by simp [hlen]) hv, by rw [hlen]; simp [Builtin.lenOf, pure, Sem.run], fun w' hh => ?_⟩
  rw [hlen]
  simp only [Builtin.firstCells]
  have : s.extract 0 s.size = s := by simp
  rw [this, ← Array.toList_map, Array.toArray_toList]
  simp [pure, Sem.run]

theorem items_spec (h : R C ι S σ H a w) {v : AV} {x : Value} {str : Bool} {e : Nat} (he : 0 < e) {F : List CV → Prop} (hv : AVR ι H S w v x) (hw : elemsW H str e v F) :
    ∃ ys news, F ys ∧ Items P S w e x ys news := by
  by_cases hs : ∃ s, v = .c (.str s)
  · obtain ⟨s, rfl⟩ := hs
    obtain ⟨⟨_, rfl⟩, hF⟩ := hw
    obtain ⟨news, hn⟩ := items_str (P := P) (S := S) (w := w) s
    rw [avr_str hv]
    exact ⟨_, _, hF, hn⟩
  · have hw' : elemsW H false e v F := by
      unfold elemsW at hw ⊢
      split at hw
      · exact hw
      · exact hw
      · exact absurd ⟨_, rfl⟩ hs
      · exact hw
      · exact hw.elim
    obtain ⟨xs, hF, hx⟩ := elems_spec h hv hw'
    obtain ⟨news, hn⟩ := items_sl (P := P) he hx
    exact ⟨xs, news, hF, hn⟩

/-- The new row behind an append: what was there, then what came. -/
theorem rowApp {w w' : World} {S : Nat → Prop} {e : Nat} (he : 0 < e) {xs ys : List CV} {olds news zs : List Value} {cap : Nat} {t : TypeId} (hh : w'.heap = w.heap.push (.cells (olds.toArray ++ news.toArray ++ zs.toArray) t (0, 0)))
    (hcap : (xs ++ ys).length ≤ cap) (hsz : cap * e ≤ (olds ++ news ++ zs).length) (hxw : ∀ x ∈ xs, x.wf e) (hyw : ∀ x ∈ ys, x.wf e) (hol : olds.length = xs.length * e) (hnl : news.length = ys.length * e)
    (hxv : ∀ i j, i < xs.length → j < e → VR w S ((xs.getD i .undef).cells.getD j .undef) (olds.getD (i * e + j) Go.undef))
    (hyv : ∀ i j, i < ys.length → j < e → VR w S ((ys.getD i .undef).cells.getD j .undef) (news.getD (i * e + j) Go.undef)) :
    RowR ⟨w.heap.size, 0, cap, false⟩ S w' e (xs ++ ys) := by
  refine rowNew hh hcap (fun x hx => ?_) (by simpa [Nat.add_assoc] using hsz) (.inl rfl) (fun i j hi hj => ?_)
  · rcases List.mem_append.1 hx with hx | hx
    · exact hxw x hx
    · exact hyw x hx
  · have e1 : ∀ k, (olds.toArray ++ news.toArray ++ zs.toArray).getD k Go.undef = (olds ++ news ++ zs).getD k Go.undef := fun k => by simp [List.getD_eq_getElem?_getD]
    rw [e1]
    by_cases hi1 : i < xs.length
    · have hlt : i * e + j < olds.length := by
        have : (i + 1) * e ≤ xs.length * e := Nat.mul_le_mul_right _ hi1
        rw [Nat.add_mul] at this; omega
      have := hxv i j hi1 hj
      simp only [List.getD_eq_getElem?_getD] at this ⊢
      rw [List.append_assoc, List.getElem?_append_left hlt, List.getElem?_append_left hi1]
      exact this
    · have hi2 : i - xs.length < ys.length := by simp at hi; omega
      have hk : i * e + j = olds.length + ((i - xs.length) * e + j) := by
        rw [hol, ← Nat.add_assoc, ← Nat.add_mul]; congr 2; omega
      have hlt : (i - xs.length) * e + j < news.length := by
        have : (i - xs.length + 1) * e ≤ ys.length * e := Nat.mul_le_mul_right _ hi2
        rw [Nat.add_mul] at this; omega
      have := hyv (i - xs.length) j hi2 hj
      simp only [List.getD_eq_getElem?_getD] at this ⊢
      have e2 : (xs ++ ys)[i]? = ys[i - xs.length]? := List.getElem?_append_right (by omega)
      have e3 : (olds ++ news ++ zs)[olds.length + ((i - xs.length) * e + j)]? = news[(i - xs.length) * e + j]? := by
        rw [List.append_assoc, List.getElem?_append_right (by omega), Nat.add_sub_cancel_left, List.getElem?_append_left hlt]
      rw [hk, e2, e3]
      exact this

def chkApp (P : Program) (t xt : TypeId) (esz bytes : Nat) (str : Bool) : Bool :=
  match P.underlying t with
  | some (.slice e) =>
    match P.info? e with
    | some i => (match i.zero with | some z => z.cells.size == esz | none => false) && i.size == esz && decide (0 < esz) && i.bytes == bytes && decide (0 < bytes) &&
      (match P.underlying xt with | some (.slice _) => !str | some .string => str | _ => false)
    | none => false
  | _ => false

theorem res_app (h : R C ι S σ H a w) {x y : Operand} {x' y' : Opd} {t xt : TypeId} {esz bytes : Nat} {str : Bool} (ho : o.op = .call { callee := .builtin .append, args := #[x, y], argTypes := #[t, xt] })
    (h1 : chkOpd x x' = true) (h2 : chkOpd y y' = true) (hc : chkApp P t xt esz bytes str = true)
    (hw : opW P g σ H u (.app x' y' esz bytes str) K) : Res P C σ H a w o K := by
  unfold chkApp at hc
  split at hc
  case h_2 => cases hc
  rename_i e hu
  split at hc
  case h_2 => cases hc
  rename_i i hi
  simp only [Bool.and_eq_true, beq_iff_eq, decide_eq_true_eq] at hc
  obtain ⟨⟨⟨⟨⟨hz, rfl⟩, he⟩, rfl⟩, hb⟩, hxt⟩ := hc
  have hx : (∃ e2, P.underlying xt = some (.slice e2)) ∨ P.underlying xt = some .string := by
    split at hxt
    · rename_i e2 h2; exact .inl ⟨e2, h2⟩
    · rename_i h2; exact .inr h2
    · cases hxt
  split at hz
  case h_2 => cases hz
  rename_i z hzv
  have hzs : z.cells.size = i.size := by simpa using hz
  have hv1 := ev h h1
  have hv2 := ev h h2
  simp only [opW] at hw
  obtain ⟨ys, news, hw, hit⟩ := items_spec (P := P) h he hv2 hw
  -- where a new row is made
  have grow : ∀ (p : Option Addr) (cap : Nat) (xs : List CV) (olds : List Value), Items P S w i.size (.slice p xs.length cap) xs olds → cap < xs.length + ys.length → (xs.length + ys.length) * i.bytes ≤ 140737488355328 →
      a.eval x = .slice p xs.length cap → ∃ (w' : World) (nc : Nat) (ob : Obj), (execOp a.eval o).run P w = .ok (.value (.slice (some ⟨w.heap.size, 0, none⟩) (xs.length + ys.length) nc)) w' ∧
        w'.heap = w.heap.push ob ∧ w'.os = w.os ∧ w'.tape = w.tape ∧ w'.output = w.output ∧ RowR ⟨w.heap.size, 0, nc, false⟩ S w' i.size (xs ++ ys) := by
    intro p cap xs olds hol hlt hby ex
    have hge := grownCap_ge w (xs.length + ys.length) cap e
    have h63 : ¬ (9223372036854775807 < ((xs.length + ys.length : Nat) : Int)) := by
      have : (xs.length + ys.length) * 1 ≤ (xs.length + ys.length) * i.bytes := Nat.mul_le_mul_left _ hb
      omega
    have hr := run_app_grow (P := P) (w := w) (ty := o.type) hu hi hzv hx p xs.length cap ys.length (a.eval y) hit.lenOf olds.toArray news.toArray (hol.first w.drew rfl) (hit.first w.drew rfl) hlt h63 (growslice_fits hlt hby)
    refine ⟨w.drew.alloc (.cells (olds.toArray ++ news.toArray ++ Builtin.zeroCells z.cells (grownCap w (xs.length + ys.length) cap e - (xs.length + ys.length))) e), grownCap w (xs.length + ys.length) cap e,
      .cells (olds.toArray ++ news.toArray ++ Builtin.zeroCells z.cells (grownCap w (xs.length + ys.length) cap e - (xs.length + ys.length))) e, ?_, rfl, rfl, rfl, rfl, ?_⟩
    · simp only [execOp, ho]
      simp only [resolve, invoke, builtin, Sem.run_bind, Sem.run_pure, Result.andThen_ok, List.map_toArray, List.map_cons, List.map_nil, ex, hr]
    · refine rowApp (zs := (Builtin.zeroCells z.cells (grownCap w (xs.length + ys.length) cap e - (xs.length + ys.length))).toList) he (w := w) (t := e) ?_ (by rw [List.length_append]; exact hge) ?_ hol.wf hit.wf hol.len hit.len hol.vr hit.vr
      · simp
        rfl
      · simp only [List.length_append, hol.len, hit.len, Array.length_toList, size_zeroCells, hzs, ← Nat.add_mul]
        exact Nat.mul_le_mul_right _ (by omega)
  have room : ∀ (p : Option Addr) (n cap : Nat), a.eval x = .slice p n cap → n + ys.length ≤ cap → ∀ w' : World, (∀ ad, p = some ad → (storeCells (ad.add (n * i.size)) news).run P w = .ok () w') → (p = none → w' = w) →
      (execOp a.eval o).run P w = .ok (.value (.slice p (n + ys.length) cap)) w' := by
    intro p n cap ex hle w' hst hp
    have hr := run_app_room (P := P) (w := w) (ty := o.type) hu hi hx p n cap ys.length (a.eval y) hit.lenOf news.toArray (hit.first w rfl) hle (w' := w') (by simpa using hst) hp
    simp only [execOp, ho]
    simp only [resolve, invoke, builtin, Sem.run_bind, Sem.run_pure, Result.andThen_ok, List.map_toArray, List.map_cons, List.map_nil, ex, hr]
  have n0 : ys.length = 0 → ys = [] ∧ news = [] := fun h0 => by
    have h1 : ys = [] := List.eq_nil_of_length_eq_zero h0
    have h2 := hit.len
    rw [h0, Nat.zero_mul] at h2
    exact ⟨h1, List.eq_nil_of_length_eq_zero h2⟩
  split at hw
  · rename_i e1
    obtain ⟨⟨hf, hby⟩, hK⟩ := hw
    rw [e1] at hv1
    have ex := avr_nilsl hv1
    by_cases h0 : ys.length = 0
    · obtain ⟨rfl, rfl⟩ := n0 h0
      obtain ⟨hn, hlt⟩ := fresh_none hf (k := 0) (by omega)
      rw [Nat.add_zero] at hn hlt
      have hget : LH.get (LH.set H (64 * u) (.row i.size [])) (64 * u) = some (.row i.size []) := by rw [LH.get_set, if_pos rfl]
      refine ⟨_, _, w, updL ι (64 * u) ⟨0, 0, 0, true⟩, S, _, _, room none 0 0 ex (by simp) w (by simp) (fun _ => rfl), .inl rfl, hK, ?_, .osl _ _ _ _ ?_⟩
      · refine h.new (64 * u) hn hlt ⟨0, 0, 0, true⟩ (by simp) (.cells #[] 0) (.row i.size []) (fun _ => ⟨_, _, rfl⟩) (.inr ⟨rfl, rfl⟩) rfl rfl rfl ?_
        unfold NewAt
        rw [hget, updL_same]
        show RowR _ _ _ _ _
        unfold RowR
        rw [if_pos rfl]
      · unfold OslOK
        simp only [LH.sets]
        rw [hget]
        refine ⟨by simp, ?_⟩
        rw [updL_same]
        unfold SliceAt
        rw [if_pos rfl]
        exact ⟨rfl, rfl, _, rfl⟩
    · obtain ⟨news0, hol⟩ := items_sl (P := P) (S := S) (w := w) he (xs := []) (x := .slice none 0 0) (.inl ⟨rfl, _, _, rfl⟩)
      obtain ⟨w', nc, ob, hrun, hh, g1, g2, g3, hrow⟩ := grow none 0 [] news0 hol (by simp; omega) (by simpa using hby) ex
      obtain ⟨hn, hlt⟩ := fresh_none hf (k := 0) (by omega)
      rw [Nat.add_zero] at hn hlt
      have hget : LH.get (LH.set H (64 * u) (.row i.size ys)) (64 * u) = some (.row i.size ys) := by rw [LH.get_set, if_pos rfl]
      refine ⟨_, _, w', updL ι (64 * u) ⟨w.heap.size, 0, nc, false⟩, S, _, _, hrun, .inl rfl, hK, ?_, .osl _ _ _ _ ?_⟩
      · refine h.new (64 * u) hn hlt ⟨w.heap.size, 0, nc, false⟩ (fun _ => rfl) ob (.row i.size ys) (by simp) (.inl hh) g1 g2 g3 ?_
        unfold NewAt
        rw [hget, updL_same]
        exact hrow
      · unfold OslOK
        simp only [LH.sets]
        rw [hget]
        refine ⟨by simp, ?_⟩
        rw [updL_same]
        unfold SliceAt
        rw [if_neg (by simp)]
        left
        simp
  · rename_i id off len e1
    rw [e1] at hv1
    split at hw
    case h_2 => exact hw.elim
    rename_i e' xs hget
    obtain ⟨⟨hf, rfl, hby⟩, hK⟩ := hw
    obtain ⟨hn, hlt⟩ := fresh_none hf (k := 0) (by omega)
    rw [Nat.add_zero] at hn hlt
    obtain ⟨hle, hsl⟩ := oslOK_row (avr_osl hv1) (.inl hget)
    have hlen : ((xs.drop off).take len).length = len := by simp; omega
    have hrow := h.hr.row _ _ _ hget
    -- what is left to show, of where the new row lies
    have fin : ∀ (w' : World) (L : Loc) (ob : Obj) (v : Value), (execOp a.eval o).run P w = .ok (.value v) w' →
        ((L.isnil = false ∧ (ι id).isnil = false ∧ L.block = (ι id).block ∧ (∀ b, b ≠ (ι id).block → w'.heap[b]? = w.heap[b]?) ∧ w'.heap.size = w.heap.size) ∨
          (L.isnil = false ∧ L.block = w.heap.size ∧ w'.heap = w.heap.push ob) ∨ (L.isnil = true ∧ w'.heap = w.heap)) →
        w'.os = w.os → w'.tape = w.tape → w'.output = w.output → RowR L S w' i.size ((xs.drop off).take len ++ ys) → SliceAt L i.size 0 (len + ys.length) v → Res P C σ H a w o K := by
      intro w' L ob v hrun hc g1 g2 g3 hr hs
      have hget2 : LH.get (LH.set (LH.set H id .dead) (64 * u) (.row i.size ((xs.drop off).take len ++ ys))) (64 * u) = some (.row i.size ((xs.drop off).take len ++ ys)) := by rw [LH.get_set, if_pos rfl]
      refine ⟨_, _, w', updL ι (64 * u) L, S, _, _, hrun, .inl rfl, hK, ?_, .osl _ _ _ _ ?_⟩
      · refine h.move hget hn hlt L ob hc g1 g2 g3 ?_
        unfold NewAt
        rw [hget2, updL_same]
        exact hr
      · unfold OslOK
        simp only [LH.sets]
        rw [hget2]
        refine ⟨by rw [List.length_append, hlen]; omega, ?_⟩
        rw [updL_same]
        exact hs
    have viaGrow : ∀ (p : Option Addr) (cap : Nat) (olds : List Value), Items P S w i.size (.slice p len cap) ((xs.drop off).take len) olds → cap < len + ys.length → a.eval x = .slice p len cap → Res P C σ H a w o K := by
      intro p cap olds hol hc ex
      have hol' : Items P S w i.size (.slice p ((xs.drop off).take len).length cap) ((xs.drop off).take len) olds := by rw [hlen]; exact hol
      obtain ⟨w', nc, ob, hrun, hh, g1, g2, g3, hr⟩ := grow p cap _ olds hol' (by rw [hlen]; exact hc) (by rw [hlen]; exact hby) (by rw [hlen]; exact ex)
      rw [hlen] at hrun
      refine fin w' ⟨w.heap.size, 0, nc, false⟩ ob _ hrun (.inr (.inl ⟨rfl, rfl, hh⟩)) g1 g2 g3 hr ?_
      unfold SliceAt
      rw [if_neg (by simp)]
      left
      simp
    have viaNil : ∀ (p : Option Addr), a.eval x = .slice p 0 0 → len = 0 → Res P C σ H a w o K := by
      intro p ex hl0
      subst hl0
      by_cases h0 : ys.length = 0
      · obtain ⟨rfl, rfl⟩ := n0 h0
        refine fin w ⟨0, 0, 0, true⟩ (.cells #[] 0) _ (room p 0 0 ex (by simp) w (fun ad _ => rfl) (fun _ => rfl)) (.inr (.inr ⟨rfl, rfl⟩)) rfl rfl rfl ?_ ?_
        · unfold RowR
          rw [if_pos rfl]
          simp
        · unfold SliceAt
          rw [if_pos rfl]
          exact ⟨rfl, rfl, p, rfl⟩
      · obtain ⟨olds, hol⟩ := items_sl (P := P) (S := S) (w := w) he (xs := (xs.drop off).take 0) (x := .slice p 0 0) (.inl ⟨by simp, p, _, rfl⟩)
        exact viaGrow p 0 olds hol (by omega) ex
    unfold SliceAt at hsl
    split at hsl
    · obtain ⟨_, hl0, p, ex⟩ := hsl
      exact viaNil p ex hl0
    · rename_i hnil
      have hnil' : (ι id).isnil = false := by simpa using hnil
      rcases hsl with ex | ⟨hl0, p, ex⟩
      · unfold RowR at hrow
        rw [if_neg hnil] at hrow
        obtain ⟨r1, r2, r3, r4⟩ := hrow
        by_cases hroom : len + ys.length ≤ (ι id).cap - off
        · -- in place
          have hmul : off * i.size + (len * i.size + ys.length * i.size) ≤ (ι id).cap * i.size := by
            rw [← Nat.add_mul, ← Nat.add_mul]; exact Nat.mul_le_mul_right _ (by omega)
          have hcells : ∀ j, j < news.length → (∃ z, w.cell? ⟨(ι id).block, (ι id).off + off * i.size + len * i.size + j, none⟩ = some z) ∧ w.frozen? ⟨(ι id).block, (ι id).off + off * i.size + len * i.size + j, none⟩ = false := fun j hj => by
            rw [hit.len] at hj
            have := r3 (off * i.size + len * i.size + j) (by omega)
            have e2 : (ι id).off + off * i.size + len * i.size + j = (ι id).off + (off * i.size + len * i.size + j) := by omega
            rw [e2]; exact this
          have hst := run_storeCells_cells (P := P) (ι id).block ((ι id).off + off * i.size + len * i.size) news 0 w
            (fun j hj => by rw [Nat.add_zero]; obtain ⟨z, hz⟩ := (hcells j hj).1; rw [hz]; rfl) (fun j hj => by rw [Nat.add_zero]; exact (hcells j hj).2) hit.one
          rw [Nat.add_zero] at hst
          obtain ⟨z1, z2, z3, z4, z5⟩ := heap_setCells (ι id).block news ((ι id).off + off * i.size + len * i.size) w
          have hrun := room (some ⟨(ι id).block, (ι id).off + off * i.size, none⟩) len _ ex hroom (w.setCells (ι id).block ((ι id).off + off * i.size + len * i.size) news)
            (fun ad had => by injection had with had; rw [← had, addr_add]; exact hst) (by simp)
          have hwn : Owned ι H id := by unfold Owned; rw [hget]; exact hnil'
          refine fin _ ⟨(ι id).block, (ι id).off + off * i.size, (ι id).cap - off, false⟩ (.cells #[] 0) _ hrun (.inl ⟨rfl, hnil', rfl, fun b hb => z2 b hb, z1⟩) z3 z4 z5 ?_ ?_
          · have hcell := fun k => cell_setCells (w := w) (ι id).block ((ι id).off + off * i.size + len * i.size) news (fun j hj => (hcells j hj).1) k
            have views : ∀ b p x, S b → w.cell? ⟨b, p, none⟩ = some x → S b ∧ (w.setCells (ι id).block ((ι id).off + off * i.size + len * i.size) news).cell? ⟨b, p, none⟩ = some x := fun b p x hs hx =>
              ⟨hs, by rw [cell_block (z2 b (fun e => h.hr.disj id hwn (e ▸ hs)))]; exact hx⟩
            unfold RowR
            rw [if_neg (by simp)]
            refine ⟨by rw [List.length_append, hlen]; exact hroom, fun y hy => ?_, fun k hk => ?_, fun p q hp hq => ?_⟩
            · rcases List.mem_append.1 hy with hy | hy
              · exact r2 y (List.mem_of_mem_drop (List.mem_of_mem_take hy))
              · exact hit.wf y hy
            · have hk : k < ((ι id).cap - off) * i.size := hk
              have hsub : ((ι id).cap - off) * i.size + off * i.size = (ι id).cap * i.size := by rw [← Nat.add_mul]; congr 1; omega
              have := r3 (off * i.size + k) (by omega)
              rw [← Nat.add_assoc] at this
              rw [World.frozen?_setCells]
              refine ⟨?_, this.2⟩
              show ∃ u, (w.setCells _ _ _).cell? ⟨(ι id).block, (ι id).off + off * i.size + k, none⟩ = some u
              rw [hcell]
              split
              · exact ⟨_, rfl⟩
              · exact this.1
            · show ∃ u, (w.setCells _ _ _).cell? ⟨(ι id).block, (ι id).off + off * i.size + (p * i.size + q), none⟩ = some u ∧ _
              by_cases hp1 : p < len
              · have hlt1 : p * i.size + q < len * i.size := by
                  have : (p + 1) * i.size ≤ len * i.size := Nat.mul_le_mul_right _ hp1
                  rw [Nat.add_mul] at this; omega
                obtain ⟨z, hz, hzv⟩ := r4 (off + p) q (by omega) hq
                refine ⟨z, ?_, ?_⟩
                · rw [hcell, if_neg (by omega), ← hz]; congr 2; rw [Nat.add_mul]; omega
                · have e2 : ((xs.drop off).take len ++ ys).getD p .undef = xs.getD (off + p) .undef := by
                    rw [← getD_drop_take xs .undef hp1]
                    simp only [List.getD_eq_getElem?_getD]
                    rw [List.getElem?_append_left (by omega)]
                  rw [e2]; exact hzv.mono views
              · have hp2 : p - len < ys.length := by rw [List.length_append, hlen] at hp; omega
                have hk : p * i.size + q = len * i.size + ((p - len) * i.size + q) := by
                  rw [← Nat.add_assoc, ← Nat.add_mul]; congr 2; omega
                have hlt1 : (p - len) * i.size + q < ys.length * i.size := by
                  have : (p - len + 1) * i.size ≤ ys.length * i.size := Nat.mul_le_mul_right _ hp2
                  rw [Nat.add_mul] at this; omega
                refine ⟨news.getD ((p - len) * i.size + q) Go.undef, ?_, ?_⟩
                · rw [hcell, if_pos (by rw [hit.len]; omega)]
                  congr 2; omega
                · have e2 : ((xs.drop off).take len ++ ys).getD p .undef = ys.getD (p - len) .undef := by
                    simp only [List.getD_eq_getElem?_getD]
                    rw [List.getElem?_append_right (by omega), hlen]
                  rw [e2]; exact (hit.vr (p - len) q hp2 hq).mono views
          · unfold SliceAt
            rw [if_neg (by simp)]
            left
            simp
        · -- a new row
          by_cases hl0 : 0 < len
          · obtain ⟨olds, hol⟩ := items_sl (P := P) (S := S) (w := w) he (xs := (xs.drop off).take len) (x := .slice (some ⟨(ι id).block, (ι id).off + off * i.size, none⟩) len ((ι id).cap - off)) (.inr ⟨_, _, _, by rw [hlen], fun y hy => r2 y (List.mem_of_mem_drop (List.mem_of_mem_take hy)), fun p q hp hq => by
              rw [hlen] at hp
              obtain ⟨z, hz, hzv⟩ := r4 (off + p) q (by omega) hq
              refine ⟨z, ?_, ?_⟩
              · rw [← hz]; congr 2; rw [Nat.add_mul]; omega
              · rw [getD_drop_take _ _ hp]; exact hzv⟩)
            exact viaGrow _ _ olds hol (by omega) ex
          · have : len = 0 := by omega
            subst this
            obtain ⟨olds, hol⟩ := items_sl (P := P) (S := S) (w := w) he (xs := (xs.drop off).take 0) (x := .slice (some ⟨(ι id).block, (ι id).off + off * i.size, none⟩) 0 ((ι id).cap - off)) (.inl ⟨by simp, _, _, rfl⟩)
            exact viaGrow _ _ olds hol (by omega) ex
      · exact viaNil p ex hl0
  · exact hw.elim

theorem run_s2b {e : TypeId} (s : ByteArray) : ∃ (w' : World) (cells : Array Value) (cap : Nat), (Conv.stringToBytes e s).run P w = .ok (.slice (some ⟨w.heap.size, 0, none⟩) s.size cap) w' ∧
    w'.heap = w.heap.push (.cells cells e (cells.size, cells.size + 1)) ∧ w'.os = w.os ∧ w'.tape = w.tape ∧ w'.output = w.output ∧ cells.size = cap ∧ s.size ≤ cap ∧ ∀ i, i < s.size → cells[i]? = some (.int .u8 (s.data.toList.getD i 0).toNat) := by
  have hge := grownCap_ge w s.size 0 e
  let cells : Array Value := s.data.map (fun b => Value.int .u8 b.toNat) ++ Array.replicate (grownCap w s.size 0 e - s.size) (.int .u8 0)
  have hcs : cells.size = grownCap w s.size 0 e := by
    have : s.data.size = s.size := rfl
    simp [cells, this]; omega
  refine ⟨{ w.drew with heap := w.heap.push (.cells cells e (cells.size, cells.size + 1)) }, cells, grownCap w s.size 0 e, ?_, rfl, rfl, rfl, rfl, hcs, hge, fun i hi => ?_⟩
  · unfold Conv.stringToBytes
    rw [Sem.run_bind, choose_append, Result.andThen_ok]
    have h1 : (newRow e cells).run P w.drew = .ok ⟨w.heap.size, 0, none⟩ (w.drew.alloc (.cells cells e)) := by
      simp [newRow, newObj, pure, Sem.run]
      rfl
    show (newRow e cells >>= fun a => markStringish a >>= fun _ => pure (Value.slice (some a) s.size (grownCap w s.size 0 e))).run P w.drew = _
    rw [Sem.run_bind, h1, Result.andThen_ok, Sem.run_bind]
    have h2 : (markStringish ⟨w.heap.size, 0, none⟩).run P (w.drew.alloc (.cells cells e)) = .ok () { w.drew with heap := w.heap.push (.cells cells e (cells.size, cells.size + 1)) } := by
      have h3 : (w.drew.alloc (.cells cells e)).heap[w.heap.size]? = some (.cells cells e (0, 0)) := by
        show (w.heap.push _)[w.heap.size]? = _
        simp
      have hsh : (w.drew.alloc (.cells cells e)).shape? w.heap.size = some (e, cells.size) := by
        unfold World.shape?; rw [h3]
      have hrun : (markStringish ⟨w.heap.size, 0, none⟩).run P (w.drew.alloc (.cells cells e)) = .ok () ((w.drew.alloc (.cells cells e)).freeze ⟨w.heap.size, cells.size, none⟩ 1) := by
        simp only [markStringish, shape, Sem.run_bind, Sem.run, hsh, Result.andThen_ok, freeze]
      rw [hrun]
      congr 1
      show World.mk _ _ _ _ _ = World.mk _ _ _ _ _
      congr 1
      show (w.heap.push _).modify _ _ = _
      apply Array.ext_getElem?
      intro k
      rw [Array.getElem?_modify]
      by_cases hk : w.heap.size = k
      · subst hk; simp
      · rw [if_neg hk, Array.getElem?_push, Array.getElem?_push]
        simp [Ne.symm hk]
    rw [h2, Result.andThen_ok]
    rfl
  · have hi' : i < s.data.size := hi
    simp only [cells]
    rw [Array.getElem?_append_left (by simpa using hi')]
    simp only [Array.getElem?_map, List.getD_eq_getElem?_getD, Array.getElem?_toList]
    rw [Array.getElem?_eq_getElem hi']
    rfl

theorem res_s2b (h : R C ι S σ H a w) {x : Operand} {x' : Opd} {s d e : TypeId} (ho : o.op = .convert s d x) (h1 : chkOpd x x' = true)
    (hs : (P.underlying s).isSome = true) (hd : P.underlying d = some (.slice e)) (he : P.underlying e = some (.int .u8))
    (hw : opW P g σ H u (.s2b x') K) : Res P C σ H a w o K := by
  have hv1 := ev h h1
  simp only [opW] at hw
  split at hw
  · rename_i st e1
    rw [e1] at hv1
    have ex := avr_str hv1
    obtain ⟨hf, _, hK⟩ := hw
    obtain ⟨sd, hs⟩ := Option.isSome_iff_exists.1 hs
    obtain ⟨w', cells, cap, hrun, hh, g1, g2, g3, hcs, hge, hcell⟩ := run_s2b (P := P) (w := w) (e := e) st
    have hlen : (strCells st).length = st.size := by simp [strCells]
    obtain ⟨ι', hR, hv⟩ := mk_row (u := u) h hf hh g1 g2 g3 (e := 1) (xs := strCells st) (cap := cap) (by rw [hlen]; exact hge) (fun y hy => by
        obtain ⟨b, _, rfl⟩ := List.mem_map.1 hy
        exact ⟨rfl, fun c hc => by simp [u8, CV.cells] at hc; rw [hc]; rfl⟩) (by omega) (.inr (by simp only; omega)) (fun i j hi hj => by
        have : j = 0 := by omega
        subst this
        rw [hlen] at hi
        have hi' : i < st.data.size := hi
        have := hcell i hi
        simp only [Nat.mul_one, Nat.add_zero, Array.getD_eq_getD_getElem?, this, Option.getD_some, strCells, List.getD_eq_getElem?_getD, List.getElem?_map, Array.getElem?_toList]
        rw [Array.getElem?_eq_getElem hi']
        exact .int _ _)
    rw [hlen] at hv hK
    refine ⟨_, _, w', ι', S, _, _, ?_, .inl rfl, hK, hR, hv⟩
    simp only [execOp, ho, ex]
    refine runV ?_
    simp only [convert, Sem.run_bind, run_underlying hs, run_underlying hd, run_underlying he, Result.andThen_ok]
    exact hrun
  · exact hw.elim

end
end Go.Proofs.Ytcpdnpaedkcebaa.V
