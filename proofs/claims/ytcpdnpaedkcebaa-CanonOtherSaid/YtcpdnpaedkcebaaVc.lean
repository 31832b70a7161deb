/- A small calculus over the model, three: how a world that bears the own blocks goes on bearing them. -/
import Derived.Test.YtcpdnpaedkcebaaVb
namespace Go.Proofs.Ytcpdnpaedkcebaa.V
open Go Go.RowKit
set_option linter.unusedVariables false
set_option linter.unusedSimpArgs false

theorem cell_lt {w : World} {b o : Nat} {x : Value} (h : w.cell? ⟨b, o, none⟩ = some x) : b < w.heap.size := World.block_lt_of_cell? w ⟨b, o, none⟩ h

theorem cell_block {w w' : World} {b : Nat} (h : w'.heap[b]? = w.heap[b]?) (o : Nat) : w'.cell? ⟨b, o, none⟩ = w.cell? ⟨b, o, none⟩ :=
  World.cell?_of_block (w := w) (w' := w') (a := ⟨b, o, none⟩) h
theorem frozen_block {w w' : World} {b : Nat} (h : w'.heap[b]? = w.heap[b]?) (o : Nat) : w'.frozen? ⟨b, o, none⟩ = w.frozen? ⟨b, o, none⟩ :=
  World.frozen?_of_block (w := w) (w' := w') (a := ⟨b, o, none⟩) h

def NewAt (ι : Nat → Loc) (S : Nat → Prop) (H : LH) (w : World) (i : Nat) : Prop :=
  match LH.get H i with
  | some (.obj cs) => ObjR ι H (ι i) S w cs
  | some (.row e xs) => RowR (ι i) S w e xs
  | some (.vrow e xs) => VRowR (ι i) S w e xs
  | _ => True

theorem ObjR.mono {ι ι' : Nat → Loc} {H H' : LH} {S S' : Nat → Prop} {w w' : World} {L : Loc} {cs : List AV} (h : ObjR ι H L S w cs)
    (k : ∀ b o x, S b → w.cell? ⟨b, o, none⟩ = some x → S' b ∧ w'.cell? ⟨b, o, none⟩ = some x)
    (hk : ∀ id o, LH.get H id = some o → ∃ o', LH.get H' id = some o' ∧ Kept ι ι' id o o')
    (hb : w'.heap[L.block]? = w.heap[L.block]?) : ObjR ι' H' L S' w' cs := by
  intro j hj
  obtain ⟨u, h1, h2, h3⟩ := h j hj
  exact ⟨u, by rw [cell_block hb]; exact h1, by rw [frozen_block hb]; exact h2, h3.mono k hk⟩

theorem RowR.mono {S S' : Nat → Prop} {w w' : World} {L : Loc} {e : Nat} {xs : List CV} (h : RowR L S w e xs)
    (k : ∀ b o x, S b → w.cell? ⟨b, o, none⟩ = some x → S' b ∧ w'.cell? ⟨b, o, none⟩ = some x)
    (hb : L.isnil = false → w'.heap[L.block]? = w.heap[L.block]?) : RowR L S' w' e xs := by
  unfold RowR at h ⊢
  split
  · rename_i hn; rw [if_pos hn] at h; exact h
  · rename_i hn
    rw [if_neg hn] at h
    have hb := hb (by simpa using hn)
    obtain ⟨h1, h2, h3, h4⟩ := h
    refine ⟨h1, h2, fun o ho => ?_, fun i j hi hj => ?_⟩
    · rw [cell_block hb, frozen_block hb]; exact h3 o ho
    · obtain ⟨u, hu, hv⟩ := h4 i j hi hj
      exact ⟨u, by rw [cell_block hb]; exact hu, hv.mono k⟩

theorem VRowR.mono {S S' : Nat → Prop} {w w' : World} {L : Loc} {e : Nat} {xs : List CV} (h : VRowR L S w e xs)
    (k : ∀ b o x, S b → w.cell? ⟨b, o, none⟩ = some x → S' b ∧ w'.cell? ⟨b, o, none⟩ = some x) : VRowR L S' w' e xs := by
  unfold VRowR at h ⊢
  split
  · rename_i hn; rw [if_pos hn] at h; exact h
  · rename_i hn
    rw [if_neg hn] at h
    exact h.mono k

theorem Owned.of_eq {ι ι' : Nat → Loc} {H H' : LH} {i : Nat} (h : Owned ι' H' i) (e : LH.get H' i = LH.get H i) (l : ι' i = ι i) : Owned ι H i := by
  unfold Owned at h ⊢
  rw [e] at h
  rw [l] at h
  exact h

theorem HR.upd {ι ι' : Nat → Loc} {S S' : Nat → Prop} {H H' : LH} {w w' : World} (h : HR ι S H w)
    (hk : ∀ i o, LH.get H i = some o → ∃ o', LH.get H' i = some o' ∧ Kept ι ι' i o o')
    (hv : ∀ b o x, S b → w.cell? ⟨b, o, none⟩ = some x → S' b ∧ w'.cell? ⟨b, o, none⟩ = some x)
    (hold : ∀ i, (LH.get H' i = LH.get H i ∧ ι' i = ι i ∧ (Owned ι H i → w'.heap[(ι i).block]? = w.heap[(ι i).block]?)) ∨ NewAt ι' S' H' w' i)
    (hinj : ∀ i j, Owned ι' H' i → Owned ι' H' j → (ι' i).block = (ι' j).block → i = j)
    (hdisj : ∀ i, Owned ι' H' i → ¬ S' (ι' i).block)
    (hlt : ∀ i, Owned ι' H' i → (ι' i).block < w'.heap.size)
    (hslt : ∀ b, S' b → b < w'.heap.size) : HR ι' S' H' w' := by
  refine ⟨fun id cs e => ?_, fun id es xs e => ?_, fun id es xs e => ?_, hinj, hdisj, hlt, hslt⟩
  · rcases hold id with ⟨e1, e2, e3⟩ | hn
    · have hg := e1 ▸ e
      have := h.obj id cs hg
      rw [e2]
      exact this.mono hv hk (e3 (by unfold Owned; rw [hg]; trivial))
    · unfold NewAt at hn; rw [e] at hn; exact hn
  · rcases hold id with ⟨e1, e2, e3⟩ | hn
    · have hg := e1 ▸ e
      have := h.row id es xs hg
      rw [e2]
      exact this.mono hv (fun hnil => e3 (by unfold Owned; rw [hg]; exact hnil))
    · unfold NewAt at hn; rw [e] at hn; exact hn
  · rcases hold id with ⟨e1, e2, e3⟩ | hn
    · have hg := e1 ▸ e
      have := h.vrow id es xs hg
      rw [e2]
      exact this.mono hv
    · unfold NewAt at hn; rw [e] at hn; exact hn

theorem R.upd {C : Ctx} {ι ι' : Nat → Loc} {S S' : Nat → Prop} {σ : Slots} {H H' : LH} {a : Act} {w w' : World} (h : R C ι S σ H a w)
    (hfr : Fr C.O C.w0 w')
    (hk : ∀ i o, LH.get H i = some o → ∃ o', LH.get H' i = some o' ∧ Kept ι ι' i o o')
    (hv : ∀ b o x, S b → w.cell? ⟨b, o, none⟩ = some x → S' b ∧ w'.cell? ⟨b, o, none⟩ = some x)
    (hS : ∀ b, S b → S' b)
    (hold : ∀ i, (LH.get H' i = LH.get H i ∧ ι' i = ι i ∧ (Owned ι H i → w'.heap[(ι i).block]? = w.heap[(ι i).block]?)) ∨ NewAt ι' S' H' w' i)
    (hinj : ∀ i j, Owned ι' H' i → Owned ι' H' j → (ι' i).block = (ι' j).block → i = j)
    (hdisj : ∀ i, Owned ι' H' i → ¬ S' (ι' i).block)
    (hlt : ∀ i, Owned ι' H' i → (ι' i).block < w'.heap.size)
    (hslt : ∀ b, S' b → b < w'.heap.size)
    (hown : ∀ id, Owned ι' H' id → C.O (ι' id).block ∨ C.w0.heap.size ≤ (ι' id).block)
    (hsup : ∀ b, S' b → C.S0 b ∨ C.O b ∨ C.w0.heap.size ≤ b)
    (hloc : ∀ id ob, LH.get H' id = some ob → ob.own → argBase ≤ id → ι' id = C.ι0 id) : R C ι' S' σ H' a w' :=
  ⟨hfr, h.hr.upd hk hv hold hinj hdisj hlt hslt, fun t => (h.sl t).mono hv hk, hown, hsup, fun b hb => hS b (h.sub b hb), hloc, h.size, h.defs⟩

/-- The heap as it was: nothing that is asked for has turned. -/
theorem R.heap {C : Ctx} {ι : Nat → Loc} {S : Nat → Prop} {σ : Slots} {H : LH} {a : Act} {w w' : World} (h : R C ι S σ H a w)
    (hh : w'.heap = w.heap) (ho : w'.os = w.os) (ht : w'.tape = w.tape) (hp : w'.output = w.output) : R C ι S σ H a w' := by
  have hb : ∀ b : Nat, w'.heap[b]? = w.heap[b]? := fun b => by rw [hh]
  refine h.upd ⟨ho.trans h.fr.os, ht.trans h.fr.tape, hp.trans h.fr.output, by rw [hh]; exact h.fr.size, fun k hk hO => by rw [hb]; exact h.fr.block k hk hO⟩
    (fun i o e => ⟨o, e, Kept.refl _ _ _⟩) (fun b o x hs hx => ⟨hs, by rw [cell_block (hb b)]; exact hx⟩) (fun _ h => h)
    (fun i => .inl ⟨rfl, rfl, fun _ => hb _⟩) h.hr.inj h.hr.disj (fun i hi => by rw [hh]; exact h.hr.lt i hi) (fun b hb => by rw [hh]; exact h.hr.slt b hb) h.own h.sup h.loc

def updL (ι : Nat → Loc) (i : Nat) (L : Loc) : Nat → Loc := fun j => if j = i then L else ι j
theorem updL_same (ι : Nat → Loc) (i : Nat) (L : Loc) : updL ι i L i = L := by simp [updL]
theorem updL_ne (ι : Nat → Loc) {i j : Nat} (L : Loc) (h : j ≠ i) : updL ι i L j = ι j := by simp [updL, h]

/-- A new block under a new name. -/
theorem R.new {C : Ctx} {ι : Nat → Loc} {S : Nat → Prop} {σ : Slots} {H : LH} {a : Act} {w w' : World} (h : R C ι S σ H a w) (i : Nat) (hn : LH.get H i = none) (hi : i < argBase)
    (L : Loc) (hL : L.isnil = false → L.block = w.heap.size) (ob : Obj) (o : LObj) (hnil : L.isnil = true → ∃ e xs, o = .row e xs)
    (hh : w'.heap = w.heap.push ob ∨ (w'.heap = w.heap ∧ L.isnil = true)) (ho : w'.os = w.os) (ht : w'.tape = w.tape) (hp : w'.output = w.output)
    (hnew : NewAt (updL ι i L) S (LH.set H i o) w' i) : R C (updL ι i L) S σ (LH.set H i o) a w' := by
  have hb : ∀ b : Nat, b < w.heap.size → w'.heap[b]? = w.heap[b]? := fun b hb => by
    rcases hh with hh | ⟨hh, _⟩
    · rw [hh, Array.getElem?_push, if_neg (by omega)]
    · rw [hh]
  have hsz : w.heap.size ≤ w'.heap.size := by
    rcases hh with hh | ⟨hh, _⟩
    · rw [hh]; simp
    · rw [hh]; exact Nat.le_refl _
  have hget : ∀ j, LH.get (LH.set H i o) j = if j = i then some o else LH.get H j := fun j => LH.get_set H i j o
  have ho1 : ∀ j, j ≠ i → Owned (updL ι i L) (LH.set H i o) j → Owned ι H j := fun j hj hw => hw.of_eq (by rw [hget, if_neg hj]) (updL_ne ι L hj)
  have hoi : Owned (updL ι i L) (LH.set H i o) i → L.isnil = false := fun hw => by
    cases hl : L.isnil with
    | false => rfl
    | true =>
      obtain ⟨e, xs, rfl⟩ := hnil hl
      unfold Owned at hw
      rw [hget, if_pos rfl, updL_same] at hw
      simp [hl] at hw
  have hpush : Owned (updL ι i L) (LH.set H i o) i → w'.heap.size = w.heap.size + 1 := fun hw => by
    rcases hh with hh | ⟨hh, hl⟩
    · rw [hh]; simp
    · rw [hoi hw] at hl; cases hl
  have hne : ∀ j, j ≠ i → Owned (updL ι i L) (LH.set H i o) j → Owned (updL ι i L) (LH.set H i o) i → (ι j).block ≠ L.block := fun j hj hw hwi e => by
    have h1 := h.hr.lt j (ho1 j hj hw)
    rw [e, hL (hoi hwi)] at h1
    omega
  refine h.upd ⟨ho.trans h.fr.os, ht.trans h.fr.tape, hp.trans h.fr.output, Nat.le_trans h.fr.size hsz, fun k hk hO => by rw [hb k (Nat.lt_of_lt_of_le hk h.fr.size)]; exact h.fr.block k hk hO⟩
    (fun j p e => ?_) (fun b p x hs hx => ⟨hs, by rw [cell_block (hb b (cell_lt hx))]; exact hx⟩) (fun _ h => h) (fun j => ?_) (fun j k hj hk e => ?_) (fun j hj => ?_) (fun j hj => ?_) (fun b hb => Nat.lt_of_lt_of_le (h.hr.slt b hb) hsz) (fun j hj => ?_) h.sup (fun j cs e hoo hj => ?_)
  · have hj : j ≠ i := fun e' => by rw [e', hn] at e; cases e
    refine ⟨p, by rw [hget, if_neg hj]; exact e, ?_⟩
    have := Kept.refl ι j p
    unfold Kept at this ⊢
    cases p <;> simp_all [updL_ne]
  · by_cases hj : j = i
    · subst hj; exact .inr hnew
    · refine .inl ⟨by rw [hget, if_neg hj], updL_ne ι L hj, fun hw => hb _ (h.hr.lt j hw)⟩
  · by_cases hji : j = i
    · by_cases hki : k = i
      · rw [hji, hki]
      · rw [hji, updL_same, updL_ne ι L hki] at e
        exact absurd e.symm (hne k hki hk (hji ▸ hj))
    · by_cases hki : k = i
      · rw [hki, updL_same, updL_ne ι L hji] at e
        exact absurd e (hne j hji hj (hki ▸ hk))
      · rw [updL_ne ι L hji, updL_ne ι L hki] at e
        exact h.hr.inj j k (ho1 j hji hj) (ho1 k hki hk) e
  · by_cases hji : j = i
    · subst hji
      rw [updL_same, hL (hoi hj)]
      intro hs
      exact absurd (h.hr.slt _ hs) (by omega)
    · rw [updL_ne ι L hji]; exact h.hr.disj j (ho1 j hji hj)
  · by_cases hji : j = i
    · subst hji
      rw [updL_same, hL (hoi hj), hpush hj]; omega
    · rw [updL_ne ι L hji]; exact Nat.lt_of_lt_of_le (h.hr.lt j (ho1 j hji hj)) hsz
  · by_cases hji : j = i
    · subst hji
      rw [updL_same, hL (hoi hj)]; exact .inr h.fr.size
    · rw [updL_ne ι L hji]; exact h.own j (ho1 j hji hj)
  · have hji : j ≠ i := fun e' => by omega
    rw [hget, if_neg hji] at e
    rw [updL_ne ι L hji]; exact h.loc j cs e hoo hj

theorem R.write {C : Ctx} {ι : Nat → Loc} {S : Nat → Prop} {σ : Slots} {H : LH} {a : Act} {w w' : World} (h : R C ι S σ H a w) {i : Nat} {o o' : LObj}
    (hg : LH.get H i = some o) (hw : Owned ι H i) (hk : Kept ι ι i o o') (hd : o' ≠ .dead)
    (hb : ∀ b, b ≠ (ι i).block → w'.heap[b]? = w.heap[b]?) (hsz : w'.heap.size = w.heap.size)
    (ho : w'.os = w.os) (ht : w'.tape = w.tape) (hp : w'.output = w.output)
    (hnew : NewAt ι S (LH.set H i o') w' i) : R C ι S σ (LH.set H i o') a w' := by
  have hget : ∀ j, LH.get (LH.set H i o') j = if j = i then some o' else LH.get H j := fun j => LH.get_set H i j o'
  have ho1 : ∀ j, Owned ι (LH.set H i o') j → Owned ι H j := fun j hj => by
    by_cases e : j = i
    · subst e; exact hw
    · exact hj.of_eq (by rw [hget, if_neg e]) rfl
  refine h.upd ⟨ho.trans h.fr.os, ht.trans h.fr.tape, hp.trans h.fr.output, by rw [hsz]; exact h.fr.size, fun k hk hO => ?_⟩
    (fun j p e => ?_) (fun b p x hs hx => ⟨hs, ?_⟩) (fun _ h => h) (fun j => ?_) (fun j k hj hk e => h.hr.inj j k (ho1 j hj) (ho1 k hk) e) (fun j hj => h.hr.disj j (ho1 j hj))
    (fun j hj => by rw [hsz]; exact h.hr.lt j (ho1 j hj)) (fun b hb => by rw [hsz]; exact h.hr.slt b hb) (fun j hj => h.own j (ho1 j hj)) h.sup (fun j cs e hoo hj => ?_)
  · rw [hb k ?_]
    · exact h.fr.block k hk hO
    · intro e
      rcases h.own i hw with h1 | h1
      · exact hO (e ▸ h1)
      · omega
  · by_cases hj : j = i
    · subst hj
      rw [hg] at e
      cases e
      exact ⟨o', by rw [hget, if_pos rfl], hk⟩
    · exact ⟨p, by rw [hget, if_neg hj]; exact e, Kept.refl _ _ _⟩
  · rw [cell_block (hb b (fun e => h.hr.disj i hw (e ▸ hs)))]; exact hx
  · by_cases hj : j = i
    · subst hj; exact .inr hnew
    · refine .inl ⟨by rw [hget, if_neg hj], rfl, fun hw' => hb _ (fun e => hj (h.hr.inj j i hw' hw e))⟩
  · by_cases hji : j = i
    · subst hji
      refine h.loc _ _ hg ?_ hj
      unfold Owned at hw
      rw [hg] at hw
      cases o <;> first | trivial | exact hw.elim
    · rw [hget, if_neg hji] at e; exact h.loc j cs e hoo hj

theorem R.move {C : Ctx} {ι : Nat → Loc} {S : Nat → Prop} {σ : Slots} {H : LH} {a : Act} {w w' : World} (h : R C ι S σ H a w) {i n e : Nat} {xs ys : List CV}
    (hg : LH.get H i = some (.row e xs)) (hn : LH.get H n = none) (hlt : n < argBase) (L : Loc) (ob : Obj)
    (hc : (L.isnil = false ∧ (ι i).isnil = false ∧ L.block = (ι i).block ∧ (∀ b, b ≠ (ι i).block → w'.heap[b]? = w.heap[b]?) ∧ w'.heap.size = w.heap.size) ∨
      (L.isnil = false ∧ L.block = w.heap.size ∧ w'.heap = w.heap.push ob) ∨ (L.isnil = true ∧ w'.heap = w.heap))
    (ho : w'.os = w.os) (ht : w'.tape = w.tape) (hp : w'.output = w.output)
    (hnew : NewAt (updL ι n L) S (LH.set (LH.set H i .dead) n (.row e ys)) w' n) : R C (updL ι n L) S σ (LH.set (LH.set H i .dead) n (.row e ys)) a w' := by
  have hin : i ≠ n := fun e' => by rw [e', hn] at hg; cases hg
  have hget : ∀ j, LH.get (LH.set (LH.set H i .dead) n (.row e ys)) j = if j = n then some (.row e ys) else if j = i then some .dead else LH.get H j := fun j => by
    rw [LH.get_set, LH.get_set]
  have hbase : ∀ b : Nat, b < w.heap.size → (L.isnil = false → (ι i).isnil = false → b ≠ (ι i).block) → w'.heap[b]? = w.heap[b]? := fun b hb hne => by
    rcases hc with ⟨h1, h2, _, h3, _⟩ | ⟨_, _, h3⟩ | ⟨_, h3⟩
    · exact h3 b (hne h1 h2)
    · rw [h3, Array.getElem?_push, if_neg (by omega)]
    · rw [h3]
  have hsz : w.heap.size ≤ w'.heap.size := by
    rcases hc with ⟨_, _, _, _, h3⟩ | ⟨_, _, h3⟩ | ⟨_, h3⟩
    · omega
    · rw [h3]; simp
    · rw [h3]; exact Nat.le_refl _
  have hwi : (ι i).isnil = false → Owned ι H i := fun hl => by unfold Owned; rw [hg]; exact hl
  have hO1 : ∀ j, j ≠ n → Owned (updL ι n L) (LH.set (LH.set H i .dead) n (.row e ys)) j → j ≠ i ∧ Owned ι H j := fun j hj hw => by
    by_cases hji : j = i
    · exfalso
      unfold Owned at hw
      rw [hget, if_neg hj, if_pos hji] at hw
      exact hw
    · exact ⟨hji, hw.of_eq (by rw [hget, if_neg hj, if_neg hji]) (updL_ne ι L hj)⟩
  have hOn : Owned (updL ι n L) (LH.set (LH.set H i .dead) n (.row e ys)) n → L.isnil = false := fun hw => by
    unfold Owned at hw
    rw [hget, if_pos rfl, updL_same] at hw
    exact hw
  have hLb : L.isnil = false → ((ι i).isnil = false ∧ L.block = (ι i).block) ∨ (L.block = w.heap.size ∧ w'.heap.size = w.heap.size + 1) := fun hl => by
    rcases hc with ⟨h1, h2, h3, _, _⟩ | ⟨_, h2, h3⟩ | ⟨h1, _⟩
    · exact .inl ⟨h2, h3⟩
    · exact .inr ⟨h2, by rw [h3]; simp⟩
    · rw [hl] at h1; cases h1
  have hne : ∀ j, j ≠ n → Owned (updL ι n L) (LH.set (LH.set H i .dead) n (.row e ys)) j → Owned (updL ι n L) (LH.set (LH.set H i .dead) n (.row e ys)) n → (ι j).block ≠ L.block := fun j hj hw hwn e' => by
    obtain ⟨hji, hoj⟩ := hO1 j hj hw
    rcases hLb (hOn hwn) with ⟨h1, h2⟩ | ⟨h1, _⟩
    · exact hji (h.hr.inj j i hoj (hwi h1) (e'.trans h2))
    · have := h.hr.lt j hoj; omega
  refine h.upd ⟨ho.trans h.fr.os, ht.trans h.fr.tape, hp.trans h.fr.output, Nat.le_trans h.fr.size hsz, fun k hk hO => ?_⟩
    (fun j p e' => ?_) (fun b p x hs hx => ⟨hs, ?_⟩) (fun _ h => h) (fun j => ?_) (fun j k hj hk e' => ?_) (fun j hj => ?_) (fun j hj => ?_) (fun b hb => Nat.lt_of_lt_of_le (h.hr.slt b hb) hsz) (fun j hj => ?_) h.sup (fun j cs e' hoo hj => ?_)
  · rw [hbase k (Nat.lt_of_lt_of_le hk h.fr.size) (fun _ hl e' => ?_)]
    · exact h.fr.block k hk hO
    · rcases h.own i (hwi hl) with h1 | h1
      · exact hO (e' ▸ h1)
      · omega
  · by_cases hj : j = i
    · subst hj
      exact ⟨.dead, by rw [hget, if_neg hin, if_pos rfl], by simp [Kept]⟩
    · have hjn : j ≠ n := fun h' => by rw [h', hn] at e'; cases e'
      refine ⟨p, by rw [hget, if_neg hjn, if_neg hj]; exact e', ?_⟩
      have := Kept.refl ι j p
      unfold Kept at this ⊢
      cases p <;> simp_all [updL_ne]
  · rw [cell_block (hbase b (cell_lt hx) (fun _ hl e' => h.hr.disj i (hwi hl) (e' ▸ hs)))]; exact hx
  · by_cases hj : j = n
    · subst hj; exact .inr hnew
    · by_cases hji : j = i
      · right
        unfold NewAt
        rw [hget, if_neg hj, if_pos hji]
        trivial
      · exact .inl ⟨by rw [hget, if_neg hj, if_neg hji], updL_ne ι L hj, fun hw' => hbase _ (h.hr.lt j hw') (fun _ hl e' => hji (h.hr.inj j i hw' (hwi hl) e'))⟩
  · by_cases hji : j = n
    · by_cases hki : k = n
      · rw [hji, hki]
      · rw [hji, updL_same, updL_ne ι L hki] at e'
        exact absurd e'.symm (hne k hki hk (hji ▸ hj))
    · by_cases hki : k = n
      · rw [hki, updL_same, updL_ne ι L hji] at e'
        exact absurd e' (hne j hji hj (hki ▸ hk))
      · rw [updL_ne ι L hji, updL_ne ι L hki] at e'
        exact h.hr.inj j k (hO1 j hji hj).2 (hO1 k hki hk).2 e'
  · by_cases hji : j = n
    · subst hji
      rw [updL_same]
      rcases hLb (hOn hj) with ⟨h1, h2⟩ | ⟨h1, _⟩
      · rw [h2]; exact h.hr.disj i (hwi h1)
      · intro hs; exact absurd (h.hr.slt _ hs) (by omega)
    · rw [updL_ne ι L hji]; exact h.hr.disj j (hO1 j hji hj).2
  · by_cases hji : j = n
    · subst hji
      rw [updL_same]
      rcases hLb (hOn hj) with ⟨h1, h2⟩ | ⟨h1, h2⟩
      · rw [h2]; exact Nat.lt_of_lt_of_le (h.hr.lt i (hwi h1)) hsz
      · omega
    · rw [updL_ne ι L hji]; exact Nat.lt_of_lt_of_le (h.hr.lt j (hO1 j hji hj).2) hsz
  · by_cases hji : j = n
    · subst hji
      rw [updL_same]
      rcases hLb (hOn hj) with ⟨h1, h2⟩ | ⟨h1, h2⟩
      · rw [h2]; exact h.own i (hwi h1)
      · rw [h1]; exact .inr h.fr.size
    · rw [updL_ne ι L hji]; exact h.own j (hO1 j hji hj).2
  · have hjn : j ≠ n := fun h' => by omega
    rw [hget, if_neg hjn] at e'
    split at e'
    · cases e'; exact hoo.elim
    · rw [updL_ne ι L hjn]; exact h.loc j cs e' hoo hj

/-- A row that is no longer written. -/
theorem R.pub {C : Ctx} {ι : Nat → Loc} {S : Nat → Prop} {σ : Slots} {H : LH} {a : Act} {w : World} (h : R C ι S σ H a w) {i e : Nat} {xs : List CV}
    (hg : LH.get H i = some (.row e xs)) : ∃ S', R C ι S' σ (LH.set H i (.vrow e xs)) a w := by
  have hget : ∀ j, LH.get (LH.set H i (.vrow e xs)) j = if j = i then some (.vrow e xs) else LH.get H j := fun j => LH.get_set H i j _
  have ho1 : ∀ j, Owned ι (LH.set H i (.vrow e xs)) j → j ≠ i ∧ Owned ι H j := fun j hj => by
    by_cases e' : j = i
    · exfalso
      unfold Owned at hj
      rw [hget, if_pos e'] at hj
      exact hj
    · exact ⟨e', hj.of_eq (by rw [hget, if_neg e']) rfl⟩
  have hwi : (ι i).isnil = false → Owned ι H i := fun hl => by unfold Owned; rw [hg]; exact hl
  refine ⟨fun b => S b ∨ ((ι i).isnil = false ∧ b = (ι i).block), ?_⟩
  refine h.upd h.fr (fun j p e' => ?_) (fun b p x hs hx => ⟨.inl hs, hx⟩) (fun _ h => .inl h) (fun j => ?_) (fun j k hj hk e' => h.hr.inj j k (ho1 j hj).2 (ho1 k hk).2 e') (fun j hj => ?_)
    (fun j hj => h.hr.lt j (ho1 j hj).2) (fun b hb => ?_) (fun j hj => h.own j (ho1 j hj).2) (fun b hb => ?_) (fun j cs e' hoo hj => ?_)
  · by_cases hj : j = i
    · subst hj
      rw [hg] at e'
      cases e'
      exact ⟨_, by rw [hget, if_pos rfl], by simp [Kept]⟩
    · exact ⟨p, by rw [hget, if_neg hj]; exact e', Kept.refl _ _ _⟩
  · by_cases hj : j = i
    · subst hj
      right
      unfold NewAt
      rw [hget, if_pos rfl]
      have hr := h.hr.row _ _ _ hg
      show VRowR _ _ _ _ _
      unfold RowR at hr
      unfold VRowR
      split
      · rename_i hl; rw [if_pos hl] at hr; exact hr
      · rename_i hl
        rw [if_neg hl] at hr
        obtain ⟨h1, h2, h3, h4⟩ := hr
        have hl' : (ι j).isnil = false := by simpa using hl
        have hch : ∀ p : Nat × Nat, ∃ u, p.1 < xs.length → p.2 < e → (w.cell? ⟨(ι j).block, (ι j).off + (p.1 * e + p.2), none⟩ = some u ∧ VR w S ((xs.getD p.1 .undef).cells.getD p.2 .undef) u) := fun p => by
          by_cases hp : p.1 < xs.length ∧ p.2 < e
          · obtain ⟨u, hu⟩ := h4 p.1 p.2 hp.1 hp.2
            exact ⟨u, fun _ _ => hu⟩
          · exact ⟨Go.undef, fun a b => absurd ⟨a, b⟩ hp⟩
        refine .sl e xs _ _ _ (fun p q => Classical.choose (hch (p, q))) h1 h2 (fun p q hp hq => ?_) (fun p q hp hq => ?_)
        · exact ⟨.inr ⟨hl', rfl⟩, (Classical.choose_spec (hch (p, q)) hp hq).1⟩
        · exact (Classical.choose_spec (hch (p, q)) hp hq).2.mono fun b o x hs hx => ⟨.inl hs, hx⟩
    · exact .inl ⟨by rw [hget, if_neg hj], rfl, fun _ => rfl⟩
  · rintro (hs | ⟨hl, hs⟩)
    · exact h.hr.disj j (ho1 j hj).2 hs
    · exact (ho1 j hj).1 (h.hr.inj j i (ho1 j hj).2 (hwi hl) hs)
  · rcases hb with hb | ⟨hl, rfl⟩
    · exact h.hr.slt b hb
    · exact h.hr.lt i (hwi hl)
  · rcases hb with hb | ⟨hl, rfl⟩
    · exact h.sup b hb
    · rcases h.own i (hwi hl) with h1 | h1
      · exact .inr (.inl h1)
      · exact .inr (.inr h1)
  · rw [hget] at e'
    split at e'
    · cases e'; exact hoo.elim
    · exact h.loc j cs e' hoo hj

end Go.Proofs.Ytcpdnpaedkcebaa.V
