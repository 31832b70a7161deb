/- A small calculus over the model: regions whose order is drawn. What is quiet is taken as soon as it may be; what writes comes in every order in which it may come. -/
import Derived.Test.YtcpdnpaedkcebaaVn
namespace Go.Proofs.Ytcpdnpaedkcebaa.V
open Go Go.RowKit
set_option linter.unusedVariables false
set_option linter.unusedSimpArgs false

def Opd.slots : Opd → List Nat
  | .t n => [n]
  | .c _ => []
def optS : Option Opd → List Nat
  | none => []
  | some x => x.slots
def Ins.reads : Ins → List Nat
  | .mv x => x.slots
  | .pick c x y => c.slots ++ (x.slots ++ y.slots)
  | .bin _ x y => x.slots ++ y.slots
  | .not x => x.slots
  | .cpl x => x.slots
  | .conv _ x => x.slots
  | .b2s x => x.slots
  | .s2b x => x.slots
  | .len _ x => x.slots
  | .mn x y => x.slots ++ y.slots
  | .mx x y => x.slots ++ y.slots
  | .ext x _ => x.slots
  | .sidx x i => x.slots ++ i.slots
  | .aidx _ x i => x.slots ++ i.slots
  | .fa x _ => x.slots
  | .ia x i _ => x.slots ++ i.slots
  | .ld x _ => x.slots
  | .st x v _ => x.slots ++ v.slots
  | .nck x => x.slots
  | .alloc _ => []
  | .box x => x.slots
  | .bld _ ps => ps.flatMap fun p => p.2.slots
  | .bsl _ ps => ps.flatMap fun p => p.slots
  | .slc x lo hi m _ => x.slots ++ (optS lo ++ (optS hi ++ optS m))
  | .ssl x lo hi => x.slots ++ (optS lo ++ optS hi)
  | .app x y _ _ _ => x.slots ++ y.slots
  | .call f as => f.slots ++ as.flatMap fun p => p.1.slots
  | .isnil x _ => x.slots
  | .beq x y => x.slots ++ y.slots
  | .bne x y => x.slots ++ y.slots
  | .mks _ _ => []
def IOp.reads (i : IOp) : List Nat :=
  (match i.g with
   | none => []
   | some (t, _) => [t]) ++ i.io.reads
def Ins.quiet : Ins → Bool
  | .s2b _ | .st _ _ _ | .alloc _ | .box _ | .bsl _ _ | .app _ _ _ _ _ | .call _ _ | .mks _ _ => false
  | _ => true

section
variable {P : Program} {σ σ' : Slots} {H : LH} {g : Prop} {u : Nat}

theorem val_congr {x : Opd} (h : ∀ t ∈ x.slots, Slots.get σ t = Slots.get σ' t) : val σ x = val σ' x := by
  cases x with
  | t n => exact h n (by simp [Opd.slots])
  | c v => rfl
theorem optI_congr {x : Option Opd} {K : Option Int → Prop} (h : ∀ t ∈ optS x, Slots.get σ t = Slots.get σ' t) : optI g σ x K = optI g σ' x K := by
  cases x with
  | none => rfl
  | some x => simp only [optI, val_congr (x := x) h]
theorem bldW_congr : ∀ (ps : List (Nat × Opd)) (z : List CV) (K : List CV → Prop), (∀ t ∈ ps.flatMap (fun p => p.2.slots), Slots.get σ t = Slots.get σ' t) → bldW σ g z ps K = bldW σ' g z ps K
  | [], z, K, h => rfl
  | (i, x) :: ps, z, K, h => by
    have hx : val σ x = val σ' x := val_congr fun t ht => h t (by simp [ht])
    simp only [bldW, hx]
    congr 1
    funext v
    split
    · rw [bldW_congr ps _ K fun t ht => h t (by simp only [List.flatMap_cons, List.mem_append]; exact .inr ht)]
    · rfl

theorem opW_congr {io : Ins} {K : AV → List (Nat × LObj) → Prop} (h : ∀ t ∈ io.reads, Slots.get σ t = Slots.get σ' t) : opW P g σ H u io K = opW P g σ' H u io K := by
  have key : ∀ x : Opd, (∀ t ∈ x.slots, t ∈ io.reads) → val σ x = val σ' x := fun x hx => val_congr fun t ht => h t (hx t ht)
  have keyo : ∀ (x : Option Opd) (K : Option Int → Prop), (∀ t ∈ optS x, t ∈ io.reads) → optI g σ x K = optI g σ' x K := fun x K hx => optI_congr fun t ht => h t (hx t ht)
  cases io with
  | bld z ps => simp only [opW]; exact bldW_congr ps z _ h
  | bsl e ps =>
    have : ps.map (val σ) = ps.map (val σ') := List.map_congr_left fun x hx => key x fun t ht => by simp only [Ins.reads, List.mem_flatMap]; exact ⟨x, hx, ht⟩
    simp only [opW, this]
  | call f as =>
    have hf : val σ f = val σ' f := key f fun t ht => by simp [Ins.reads, ht]
    have ha : (as.map fun x => (val σ x.1, x.2)) = as.map fun x => (val σ' x.1, x.2) :=
      List.map_congr_left fun x hx => by rw [key x.1 fun t ht => by simp only [Ins.reads, List.mem_append, List.mem_flatMap]; exact .inr ⟨x, hx, ht⟩]
    simp only [opW, callW, hf, ha]
  | slc x lo hi mx e =>
    have h1 := key x fun t ht => by simp [Ins.reads, ht]
    have h2 := fun K => keyo lo K fun t ht => by simp [Ins.reads, ht]
    have h3 := fun K => keyo hi K fun t ht => by simp [Ins.reads, ht]
    have h4 := fun K => keyo mx K fun t ht => by simp [Ins.reads, ht]
    simp only [opW, h1, h2, h3, h4]
  | ssl x lo hi =>
    have h1 := key x fun t ht => by simp [Ins.reads, ht]
    have h2 := fun K => keyo lo K fun t ht => by simp [Ins.reads, ht]
    have h3 := fun K => keyo hi K fun t ht => by simp [Ins.reads, ht]
    simp only [opW, h1, h2, h3]
  | alloc z => rfl
  | mks n z => rfl
  | pick a b c =>
    have h1 := key a fun t ht => by simp [Ins.reads, ht]
    have h2 := key b fun t ht => by simp [Ins.reads, ht]
    have h3 := key c fun t ht => by simp [Ins.reads, ht]
    simp only [opW, h1, h2, h3]
  | bin _ x y | beq x y | bne x y | mn x y | mx x y | sidx x y | aidx _ x y | ia x y _ | st x y _ | app x y _ _ _ =>
    have h1 := key x fun t ht => by simp [Ins.reads, ht]
    have h2 := key y fun t ht => by simp [Ins.reads, ht]
    simp only [opW, h1, h2]
  | mv x | not x | cpl x | conv _ x | b2s x | s2b x | len _ x | ext x _ | fa x _ | ld x _ | nck x | box x | isnil x _ =>
    have h1 := key x fun t ht => by simp [Ins.reads, ht]
    simp only [opW, h1]

theorem stepW_congr {i : IOp} {K : AV → List (Nat × LObj) → Prop} (h : ∀ t ∈ i.reads, Slots.get σ t = Slots.get σ' t) : stepW P σ H i K = stepW P σ' H i K := by
  unfold stepW
  have hr : ∀ t ∈ i.io.reads, Slots.get σ t = Slots.get σ' t := fun t ht => h t (by simp [IOp.reads, ht])
  cases hg : i.g with
  | none => exact opW_congr hr
  | some tw =>
    obtain ⟨t, want⟩ := tw
    have ht := h t (by simp [IOp.reads, hg])
    simp only [ht, opW_congr (P := P) (H := H) (σ := σ) (σ' := σ') hr]

theorem ex_ung {v : AV} {F : AV → Prop} (h : ungW g v F) : ∃ v', F v' ∧ ∀ F' : AV → Prop, F' v' → ungW g v F' := by
  unfold ungW at h ⊢
  split at h
  · exact ⟨_, h.2, fun F' hf => ⟨h.1, hf⟩⟩
  · rename_i hn
    exact ⟨_, h, fun F' hf => hf⟩
theorem ex_pick {t : Bool} {x y : AV} {F : AV → Prop} (h : pickW g t x y F) : ∃ v', F v' ∧ ∀ F' : AV → Prop, F' v' → pickW g t x y F' := by
  unfold pickW at h ⊢
  split at h
  · exact ⟨_, h, fun F' hf => hf⟩
  · exact ⟨_, h.2, fun F' hf => ⟨h.1, hf⟩⟩
  · exact ⟨_, h.2, fun F' hf => ⟨h.1, hf⟩⟩
  · exact ⟨_, h.2.2, fun F' hf => ⟨h.1, h.2.1, hf⟩⟩
  · exact ⟨_, h.2, fun F' hf => ⟨h.1, hf⟩⟩
  · exact ⟨_, h.2, fun F' hf => ⟨h.1, hf⟩⟩
  · exact ⟨_, h.2, fun F' hf => ⟨h.1, hf⟩⟩
  · exact ⟨_, h.2, fun F' hf => ⟨h.1, hf⟩⟩
  · exact h.elim
theorem ex_binI {op : BinOp} {k : IntKind} {x y : Int} {F : CV → Prop} (h : binI g op k x y F) : ∃ v', F v' ∧ ∀ F' : CV → Prop, F' v' → binI g op k x y F' := by
  cases op <;> simp only [binI] at h ⊢ <;> first | exact ⟨_, h, fun F' hf => hf⟩ | exact ⟨_, h.2, fun F' hf => ⟨h.1, hf⟩⟩ | exact h.elim
theorem ex_bin {op : BinOp} {x y : AV} {F : CV → Prop} (h : binW g op x y F) : ∃ v', F v' ∧ ∀ F' : CV → Prop, F' v' → binW g op x y F' := by
  obtain ⟨v1, h, f1⟩ := ex_ung h
  obtain ⟨v2, h, f2⟩ := ex_ung h
  have f : ∀ G : AV → AV → Prop, G v1 v2 → ungW g x fun x => ungW g y fun y => G x y := fun G hG => f1 _ (f2 _ hG)
  clear f1 f2
  unfold binW
  split at h
  · split at h
    · exact ⟨_, h.2, fun F' hf => f _ ⟨h.1, hf⟩⟩
    · exact ⟨_, h.2, fun F' hf => f _ ⟨h.1, hf⟩⟩
    · rename_i h1 h2
      obtain ⟨v', a, b⟩ := ex_binI h.2
      refine ⟨v', a, fun F' hf => f _ ?_⟩
      simp only
      exact ⟨h.1, b F' hf⟩
  · unfold binS at h
    split at h
    · exact ⟨_, h, fun F' hf => f _ hf⟩
    · exact ⟨_, h, fun F' hf => f _ hf⟩
    · exact h.elim
  · unfold binF at h
    split at h
    · exact ⟨_, h, fun F' hf => f _ hf⟩
    · exact ⟨_, h, fun F' hf => f _ hf⟩
    · exact h.elim
  · exact h.elim
theorem ex_len {b : Bool} {x : AV} {F : Nat → Prop} (h : lenW g H b x F) : ∃ v', F v' ∧ ∀ F' : Nat → Prop, F' v' → lenW g H b x F' := by
  obtain ⟨v1, h, f1⟩ := ex_ung h
  unfold lenW
  split at h
  · exact ⟨_, h, fun F' hf => f1 _ hf⟩
  · exact ⟨_, h, fun F' hf => f1 _ hf⟩
  · exact ⟨_, h, fun F' hf => f1 _ hf⟩
  · split at h
    · rename_i hg; exact ⟨_, h, fun F' hf => f1 _ (by simp only [hg]; exact hf)⟩
    · rename_i hg; exact ⟨_, h, fun F' hf => f1 _ (by simp only [hg]; exact hf)⟩
    · exact h.elim
  · exact h.elim
theorem ex_elems {b : Bool} {e : Nat} {x : AV} {F : List CV → Prop} (h : elemsW H b e x F) : ∃ v', F v' ∧ ∀ F' : List CV → Prop, F' v' → elemsW H b e x F' := by
  unfold elemsW at h ⊢
  split at h
  · exact ⟨_, h, fun F' hf => hf⟩
  · exact ⟨_, h.2, fun F' hf => ⟨h.1, hf⟩⟩
  · exact ⟨_, h.2, fun F' hf => ⟨h.1, hf⟩⟩
  · split at h
    · exact ⟨_, h.2, fun F' hf => ⟨h.1, hf⟩⟩
    · exact ⟨_, h.2, fun F' hf => ⟨h.1, hf⟩⟩
    · exact h.elim
  · exact h.elim
theorem ex_closed : ∀ {l : List AV} {F : List CV → Prop}, closedW l F → ∃ v', F v' ∧ ∀ F' : List CV → Prop, F' v' → closedW l F'
  | [], F, h => ⟨[], h, fun F' hf => hf⟩
  | .c v :: l, F, h => by
    obtain ⟨vs, a, b⟩ := ex_closed (l := l) (F := fun vs => F (v :: vs)) h
    exact ⟨v :: vs, a, fun F' hf => b (fun vs => F' (v :: vs)) hf⟩
  | .ref _ _ :: l, F, h => h.elim
  | .osl _ _ _ :: l, F, h => h.elim
  | .eptr _ _ _ :: l, F, h => h.elim
  | .vptr _ :: l, F, h => h.elim
  | .tup _ :: l, F, h => h.elim
  | .grd _ _ :: l, F, h => h.elim
theorem ex_ldRow {e : Nat} {x : CV} {f : Nat} {n : Option Nat} {F : AV → Prop} (h : ldRow g e x f n F) : ∃ v', F v' ∧ ∀ F' : AV → Prop, F' v' → ldRow g e x f n F' := by
  cases n with
  | none => exact ⟨_, h.2, fun F' hf => ⟨h.1, hf⟩⟩
  | some n => exact ⟨_, h.2, fun F' hf => ⟨h.1, hf⟩⟩
theorem ex_load {x : AV} {n : Option Nat} {F : AV → Prop} (h : loadW g H x n F) : ∃ v', F v' ∧ ∀ F' : AV → Prop, F' v' → loadW g H x n F' := by
  obtain ⟨v1, h, f1⟩ := ex_ung h
  unfold loadW
  split at h
  · split at h
    · rename_i hg
      cases n with
      | none => exact ⟨_, h.2, fun F' hf => f1 _ (by simp only [hg]; exact ⟨h.1, hf⟩)⟩
      | some n =>
        obtain ⟨vs, a, b⟩ := ex_closed h.2
        exact ⟨_, a, fun F' hf => f1 _ (by simp only [hg]; exact ⟨h.1, b _ hf⟩)⟩
    · exact h.elim
  · split at h
    · rename_i hg
      obtain ⟨v', a, b⟩ := ex_ldRow h
      exact ⟨_, a, fun F' hf => f1 _ (by simp only [hg]; exact b _ hf)⟩
    · rename_i hg
      obtain ⟨v', a, b⟩ := ex_ldRow h
      exact ⟨_, a, fun F' hf => f1 _ (by simp only [hg]; exact b _ hf)⟩
    · exact h.elim
  · cases n with
    | none => exact ⟨_, h.2, fun F' hf => f1 _ ⟨h.1, hf⟩⟩
    | some n => exact ⟨_, h.2, fun F' hf => f1 _ ⟨h.1, hf⟩⟩
  · exact h.elim
theorem ex_bld : ∀ {ps : List (Nat × Opd)} {z : List CV} {F : List CV → Prop}, bldW σ g z ps F → ∃ v', F v' ∧ ∀ F' : List CV → Prop, F' v' → bldW σ g z ps F'
  | [], z, F, h => ⟨_, h, fun F' hf => hf⟩
  | (i, x) :: ps, z, F, h => by
    obtain ⟨v1, h, f1⟩ := ex_ung h
    split at h
    · obtain ⟨v', a, b⟩ := ex_bld h.2
      exact ⟨_, a, fun F' hf => f1 _ ⟨h.1, b _ hf⟩⟩
    · exact h.elim
theorem ex_opt {x : Option Opd} {F : Option Int → Prop} (h : optI g σ x F) : ∃ v', F v' ∧ ∀ F' : Option Int → Prop, F' v' → optI g σ x F' := by
  cases x with
  | none => exact ⟨_, h, fun F' hf => hf⟩
  | some x =>
    obtain ⟨v1, h, f1⟩ := ex_ung h
    split at h
    · exact ⟨_, h, fun F' hf => f1 _ hf⟩
    · exact h.elim

/-- What is quiet comes to one value and writes nothing. -/
theorem ex_op {io : Ins} {K : AV → List (Nat × LObj) → Prop} (hq : io.quiet = true) (h : opW P g σ H u io K) : ∃ v, K v [] ∧ ∀ K' : AV → List (Nat × LObj) → Prop, K' v [] → opW P g σ H u io K' := by
  cases io with
  | mv x => exact ⟨_, h, fun K' hk => hk⟩
  | pick c x y =>
    obtain ⟨v1, h, f1⟩ := ex_ung h
    split at h
    · obtain ⟨v, a, b⟩ := ex_pick h
      exact ⟨v, a, fun K' hk => f1 _ (b _ hk)⟩
    · exact h.elim
  | bin op x y =>
    obtain ⟨v, a, b⟩ := ex_bin h
    exact ⟨_, a, fun K' hk => b _ hk⟩
  | not x =>
    obtain ⟨v1, h, f1⟩ := ex_ung h
    split at h
    · exact ⟨_, h, fun K' hk => f1 _ hk⟩
    · exact h.elim
  | cpl x =>
    obtain ⟨v1, h, f1⟩ := ex_ung h
    split at h
    · exact ⟨_, h, fun K' hk => f1 _ hk⟩
    · exact h.elim
  | conv k x =>
    obtain ⟨v1, h, f1⟩ := ex_ung h
    split at h
    · exact ⟨_, h, fun K' hk => f1 _ hk⟩
    · exact h.elim
  | b2s x =>
    obtain ⟨v1, h, f1⟩ := ex_ung h
    obtain ⟨xs, a, b⟩ := ex_elems h
    exact ⟨_, a.2, fun K' hk => f1 _ (b _ ⟨a.1, hk⟩)⟩
  | len b x =>
    simp only [opW] at h ⊢
    obtain ⟨v, a, b⟩ := ex_len h
    exact ⟨_, a, fun K' hk => b _ hk⟩
  | beq x y =>
    obtain ⟨v1, h, f1⟩ := ex_ung h
    obtain ⟨v2, h, f2⟩ := ex_ung h
    split at h
    · exact ⟨_, h, fun K' hk => f1 _ (f2 _ hk)⟩
    · exact h.elim
  | bne x y =>
    obtain ⟨v1, h, f1⟩ := ex_ung h
    obtain ⟨v2, h, f2⟩ := ex_ung h
    split at h
    · exact ⟨_, h, fun K' hk => f1 _ (f2 _ hk)⟩
    · exact h.elim
  | mks n z => cases hq
  | mn x y =>
    obtain ⟨v1, h, f1⟩ := ex_ung h
    obtain ⟨v2, h, f2⟩ := ex_ung h
    split at h
    · exact ⟨_, h.2, fun K' hk => f1 _ (f2 _ ⟨h.1, hk⟩)⟩
    · exact h.elim
  | mx x y =>
    obtain ⟨v1, h, f1⟩ := ex_ung h
    obtain ⟨v2, h, f2⟩ := ex_ung h
    split at h
    · exact ⟨_, h.2, fun K' hk => f1 _ (f2 _ ⟨h.1, hk⟩)⟩
    · exact h.elim
  | ext x i =>
    obtain ⟨v1, h, f1⟩ := ex_ung h
    split at h
    · exact ⟨_, h.2, fun K' hk => f1 _ ⟨h.1, hk⟩⟩
    · exact h.elim
  | sidx x i =>
    obtain ⟨v1, h, f1⟩ := ex_ung h
    obtain ⟨v2, h, f2⟩ := ex_ung h
    split at h
    · exact ⟨_, h.2, fun K' hk => f1 _ (f2 _ ⟨h.1, hk⟩)⟩
    · exact h.elim
  | aidx n x i =>
    obtain ⟨v1, h, f1⟩ := ex_ung h
    obtain ⟨v2, h, f2⟩ := ex_ung h
    split at h
    · exact ⟨_, h.2.2, fun K' hk => f1 _ (f2 _ ⟨h.1, h.2.1, hk⟩)⟩
    · exact h.elim
  | fa x off =>
    obtain ⟨v1, h, f1⟩ := ex_ung h
    split at h
    · split at h
      · rename_i hg; exact ⟨_, h.2, fun K' hk => f1 _ (by simp only [hg]; exact ⟨h.1, hk⟩)⟩
      · exact h.elim
    · split at h
      · rename_i hg; exact ⟨_, h, fun K' hk => f1 _ (by simp only [hg]; exact hk)⟩
      · rename_i hg; exact ⟨_, h, fun K' hk => f1 _ (by simp only [hg]; exact hk)⟩
      · exact h.elim
    · exact ⟨_, h, fun K' hk => f1 _ hk⟩
    · exact h.elim
  | ia x i e =>
    obtain ⟨v1, h, f1⟩ := ex_ung h
    obtain ⟨v2, h, f2⟩ := ex_ung h
    split at h
    · split at h
      · rename_i hg; exact ⟨_, h.2.2, fun K' hk => f1 _ (f2 _ (by simp only [hg]; exact ⟨h.1, h.2.1, hk⟩))⟩
      · rename_i hg; exact ⟨_, h.2.2, fun K' hk => f1 _ (f2 _ (by simp only [hg]; exact ⟨h.1, h.2.1, hk⟩))⟩
      · exact h.elim
    · exact ⟨_, h.2.2, fun K' hk => f1 _ (f2 _ ⟨h.1, h.2.1, hk⟩)⟩
    · exact h.elim
  | ld x n =>
    simp only [opW] at h ⊢
    obtain ⟨v, a, b⟩ := ex_load h
    exact ⟨_, a, fun K' hk => b _ hk⟩
  | nck x =>
    obtain ⟨v1, h, f1⟩ := ex_ung h
    split at h
    · split at h
      · rename_i hg; exact ⟨_, h, fun K' hk => f1 _ (by simp only [hg]; exact hk)⟩
      · exact h.elim
    · exact ⟨_, h, fun K' hk => f1 _ hk⟩
    · split at h
      · rename_i hg; exact ⟨_, h, fun K' hk => f1 _ (by simp only [hg]; exact hk)⟩
      · rename_i hg; exact ⟨_, h, fun K' hk => f1 _ (by simp only [hg]; exact hk)⟩
      · exact h.elim
    · exact h.elim
  | bld z ps =>
    obtain ⟨v, a, b⟩ := ex_bld h
    exact ⟨_, a, fun K' hk => b _ hk⟩
  | slc x lo hi m e =>
    obtain ⟨v1, h, f1⟩ := ex_ung h
    obtain ⟨a1, h, f2⟩ := ex_opt h
    obtain ⟨a2, h, f3⟩ := ex_opt h
    obtain ⟨a3, h, f4⟩ := ex_opt h
    have f : ∀ G : AV → Option Int → Option Int → Option Int → Prop, G v1 a1 a2 a3 → ungW g (val σ x) fun v => optI g σ lo fun lo => optI g σ hi fun hi => optI g σ m fun m => G v lo hi m :=
      fun G hG => f1 _ (f2 _ (f3 _ (f4 _ hG)))
    clear f1 f2 f3 f4
    split at h
    · split at h
      · rename_i hg; exact ⟨_, h.2.2.2, fun K' hk => f _ (by simp only [hg]; exact ⟨h.1, h.2.1, h.2.2.1, hk⟩)⟩
      · rename_i hg; exact ⟨_, h.2.2.2, fun K' hk => f _ (by simp only [hg]; exact ⟨h.1, h.2.1, h.2.2.1, hk⟩)⟩
      · exact h.elim
    · exact ⟨_, h.2.2, fun K' hk => f _ ⟨h.1, h.2.1, hk⟩⟩
    · exact ⟨_, h.2, fun K' hk => f _ ⟨h.1, hk⟩⟩
    · exact h.elim
  | ssl x lo hi =>
    obtain ⟨v1, h, f1⟩ := ex_ung h
    obtain ⟨a1, h, f2⟩ := ex_opt h
    obtain ⟨a2, h, f3⟩ := ex_opt h
    split at h
    · exact ⟨_, h.2, fun K' hk => f1 _ (f2 _ (f3 _ ⟨h.1, hk⟩))⟩
    · exact h.elim
  | isnil x neg =>
    obtain ⟨v1, h, f1⟩ := ex_ung h
    split at h
    · exact ⟨_, h, fun K' hk => f1 _ hk⟩
    · exact ⟨_, h.2, fun K' hk => f1 _ ⟨h.1, hk⟩⟩
    · split at h
      · rename_i hg; exact ⟨_, h.2, fun K' hk => f1 _ (by simp only [hg]; exact ⟨h.1, hk⟩)⟩
      · rename_i hg; exact ⟨_, h.2, fun K' hk => f1 _ (by simp only [hg]; exact ⟨h.1, hk⟩)⟩
      · exact h.elim
    · exact h.elim
  | _ => cases hq

theorem ex_step {i : IOp} {K : AV → List (Nat × LObj) → Prop} (hq : i.io.quiet = true) (h : stepW P σ H i K) : ∃ v, K v [] ∧ ∀ K' : AV → List (Nat × LObj) → Prop, K' v [] → stepW P σ H i K' := by
  unfold stepW at h ⊢
  split at h
  · exact ex_op hq h
  · split at h
    · rcases h with h | ⟨hb, v, hk⟩
      · obtain ⟨v, a, b⟩ := ex_op hq h
        exact ⟨_, a.2, fun K' hk => .inl (b _ ⟨rfl, hk⟩)⟩
      · exact ⟨_, hk, fun K' hk => .inr ⟨hb, v, hk⟩⟩
    · rcases h with h | ⟨hb, v, hk⟩
      · obtain ⟨v, a, b⟩ := ex_op hq h
        exact ⟨_, a.2, fun K' hk => .inl (b _ ⟨rfl, hk⟩)⟩
      · exact ⟨_, hk, fun K' hk => .inr ⟨hb, v, hk⟩⟩
    · exact h.elim

/-- How a drawn region comes up: its quiet operations as soon as they may, its others in every order. -/
inductive DT where
  | done
  | no
  | take (k : Nat) (i : IOp) (t : DT)
  | br (k : Nat) (i : IOp) (ms : List Bool) (t rest : DT)

def sel {α : Type} : List Bool → List α → List α
  | true :: ms, x :: l => x :: sel ms l
  | false :: ms, _ :: l => sel ms l
  | _, _ => []

def pendW (P : Program) (σ : Slots) (H : LH) : List (Nat × IOp × AV) → Prop
  | [] => True
  | (_, i, v) :: l => (stepW P σ H i fun v' ws => ws = [] ∧ v' = v) ∧ pendW P σ H l

def drawW (P : Program) (K : Slots → LH → Prop) : DT → List (Nat × IOp × AV) → Slots → LH → Prop
  | .done, _, σ, H => K σ H
  | .no, _, _, _ => True
  | .take k i t, pd, σ, H => stepW P σ H i fun v ws => ws = [] ∧ drawW P K t ((k, i, v) :: pd) (Slots.put σ i.d v) H
  | .br _ i ms t r, pd, σ, H => (stepW P σ H i fun v ws => pendW P (Slots.put σ i.d v) (LH.sets H ws) (sel ms pd) ∧ drawW P K t (sel ms pd) (Slots.put σ i.d v) (LH.sets H ws)) ∧ drawW P K r pd σ H

def DT.brs : DT → List Nat
  | .br k _ _ _ r => k :: r.brs
  | _ => []
def dIn (d : Option Nat) (l : List Nat) : Bool :=
  match d with
  | some d => l.contains d
  | none => false
def dNe (d d' : Option Nat) : Bool :=
  match d, d' with
  | some a, some b => a != b
  | _, _ => true
def aft (o : Oper) : List Nat := (o.after.toList.filter (Region.binds .any)).map (·.on)

/-- While these wait this one may come up. -/
def chkPend (af : List Nat) (i : IOp) (pi : List (Nat × IOp)) : Bool :=
  pi.all fun x => (af.contains x.1 || !dIn x.2.d i.reads) && dNe i.d x.2.d
def chkSel (af : List Nat) : List Bool → List (Nat × IOp) → Bool
  | true :: ms, _ :: l => chkSel af ms l
  | false :: ms, x :: l => af.contains x.1 && chkSel af ms l
  | [], [] => true
  | _, _ => false

def chkDT (P : Program) (n : Nat) (ops : Array Oper) : DT → Array Bool → List (Nat × IOp) → Bool → Bool
  | .done, la, pi, hd => !hd || (Region.ready .any ops la).isEmpty
  | .no, _, _, hd => !hd
  | .take k i t, la, pi, hd => hd && (Region.ready .any ops la).contains k &&
    (match ops[k]? with
     | some o => chkIOp P n ops o i && i.io.quiet && chkPend (aft o) i pi && !dIn i.d i.reads && (pi.all fun x => !dIn i.d x.2.reads) &&
        chkDT P n ops t (la.setIfInBounds k true) ((k, i) :: pi) true
     | none => false)
  | .br k i ms t r, la, pi, hd => (!hd || (Region.ready .any ops la).all fun j => (k :: r.brs).contains j) && (Region.ready .any ops la).contains k &&
    (match ops[k]? with
     | some o => chkIOp P n ops o i && chkSel (aft o) ms pi && chkPend (aft o) i (sel ms pi) && chkDT P n ops t (la.setIfInBounds k true) (sel ms pi) true
     | none => false) && chkDT P n ops r la pi false

/-- Whoever waits waits for one that stands before it in the text. -/
def chkText (ops : Array Oper) : Bool :=
  (List.range ops.size).all fun k => match ops[k]? with
    | some o => (aft o).all fun j => decide (j < k)
    | none => true


theorem sel_mem {α : Type} : ∀ (ms : List Bool) (l : List α) (x : α), x ∈ sel ms l → x ∈ l
  | true :: ms, y :: l, x, h => by
    simp only [sel, List.mem_cons] at h ⊢
    exact h.imp id (sel_mem ms l x)
  | false :: ms, y :: l, x, h => by
    simp only [sel] at h
    exact List.mem_cons_of_mem _ (sel_mem ms l x h)
  | [], _, x, h => by simp [sel] at h
  | true :: _, [], x, h => by simp [sel] at h
  | false :: _, [], x, h => by simp [sel] at h
theorem sel_map {α β : Type} (f : α → β) : ∀ (ms : List Bool) (l : List α), (sel ms l).map f = sel ms (l.map f)
  | true :: ms, y :: l => by simp [sel, sel_map f ms l]
  | false :: ms, y :: l => by simp [sel, sel_map f ms l]
  | [], _ => by simp [sel]
  | true :: _, [] => by simp [sel]
  | false :: _, [] => by simp [sel]
theorem sel_or {af : List Nat} : ∀ (ms : List Bool) (pd : List (Nat × IOp × AV)), chkSel af ms (pd.map fun e => (e.1, e.2.1)) = true → ∀ e ∈ pd, e ∈ sel ms pd ∨ e.1 ∈ af
  | true :: ms, y :: l, h, e, he => by
    simp only [List.map_cons, chkSel] at h
    simp only [sel, List.mem_cons] at he ⊢
    rcases he with rfl | he
    · exact .inl (.inl rfl)
    · exact (sel_or ms l h e he).imp .inr id
  | false :: ms, y :: l, h, e, he => by
    simp only [List.map_cons, chkSel, Bool.and_eq_true, List.contains_iff_mem] at h
    simp only [sel, List.mem_cons] at he ⊢
    rcases he with rfl | he
    · exact .inr h.1
    · exact sel_or ms l h.2 e he
  | _, [], h, e, he => by simp at he
  | [], _ :: _, h, e, he => by simp [chkSel] at h

theorem pend_mem : ∀ (pd : List (Nat × IOp × AV)), pendW P σ H pd → ∀ e ∈ pd, stepW P σ H e.2.1 fun v' ws => ws = [] ∧ v' = e.2.2
  | [], _, e, he => by simp at he
  | (k, i, v) :: l, h, e, he => by
    rcases List.mem_cons.1 he with rfl | he
    · exact h.1
    · exact pend_mem l h.2 e he

theorem set_get {la : Array Bool} {i j : Nat} : (la.setIfInBounds i true).getD j true = false ↔ j ≠ i ∧ la.getD j true = false := by
  by_cases e : i = j
  · subst e
    by_cases hl : i < la.size
    · simp [hl]
    · simp [hl]
  · rw [Go.getD_set_ne _ e]
    simp [Ne.symm e]

def cnt (l : Array Bool) : Nat := l.toList.count false
theorem count_set : ∀ (l : List Bool) (i : Nat), l[i]? = some false → (l.set i true).count false + 1 = l.count false
  | [], i, h => by simp at h
  | x :: l, 0, h => by
    simp at h; subst h
    simp
  | x :: l, i + 1, h => by
    have := count_set l i (by simpa using h)
    simp only [List.set_cons_succ, List.count_cons]
    omega
theorem cnt_set {l : Array Bool} {i : Nat} (h : l.getD i true = false) : cnt (l.setIfInBounds i true) + 1 = cnt l := by
  unfold cnt
  rw [Array.toList_setIfInBounds]
  refine count_set _ _ ?_
  by_cases hl : i < l.size
  · simp [hl] at h ⊢; exact h
  · simp [hl] at h
theorem cnt_zero {l : Array Bool} (h : cnt l = 0) (i : Nat) : l.getD i true = true := by
  cases hb : l.getD i true with
  | true => rfl
  | false => have := cnt_set hb; omega

theorem ready_all {ops : Array Oper} (ht : chkText ops = true) {lc : Array Bool} (hs : lc.size = ops.size) (hr : Region.ready .any ops lc = []) : ∀ j, lc.getD j true = true := by
  intro j
  induction j using Nat.strongRecOn with
  | ind j ih =>
    cases hb : lc.getD j true with
    | true => rfl
    | false =>
      exfalso
      have hj : j < ops.size := by
        by_cases hl : j < lc.size
        · omega
        · simp [hl] at hb
      have : j ∈ Region.ready .any ops lc := by
        refine mem_ready.2 ⟨hb, ops[j], by simp [hj], fun e he hbd => ?_⟩
        have h1 := List.all_eq_true.1 ht j (List.mem_range.2 hj)
        simp only [hj, getElem?_pos, List.all_eq_true, decide_eq_true_eq] at h1
        have hlt := h1 e.on (List.mem_map.2 ⟨e, List.mem_filter.2 ⟨Array.mem_toList_iff.2 he, hbd⟩, rfl⟩)
        have h2 := ih e.on hlt
        have : e.on < lc.size := by omega
        simp [this] at h2 ⊢
        exact h2
      rw [hr] at this
      cases this

structure Inv (P : Program) (C : Ctx) (ops : Array Oper) (lc la : Array Bool) (pd : List (Nat × IOp × AV)) (σ : Slots) (H : LH) (a : Act) (w : World) : Prop where
  sc : lc.size = ops.size
  sa : la.size = ops.size
  up : ∀ j, la.getD j true = false → lc.getD j true = false
  dn : ∀ j, lc.getD j true = false → la.getD j true = false ∨ ∃ e ∈ pd, e.1 = j
  list : ∀ e ∈ pd, la.getD e.1 true = true
  uniq : ∀ e ∈ pd, ∀ e' ∈ pd, e.1 = e'.1 → e = e'
  hold : ∀ e ∈ pd, lc.getD e.1 true = false → e.2.1.io.quiet = true ∧ (∃ o, ops[e.1]? = some o ∧ chkIOp P C.n ops o e.2.1 = true) ∧
    (∀ K : AV → List (Nat × LObj) → Prop, K e.2.2 [] → stepW P σ H e.2.1 K) ∧ ∀ d, e.2.1.d = some d → Slots.get σ d = e.2.2
  pair : ∀ e ∈ pd, ∀ e' ∈ pd, lc.getD e.1 true = false → lc.getD e'.1 true = false → ∀ o, ops[e.1]? = some o → e'.1 ∈ aft o ∨ ∀ d, e'.2.1.d = some d → d ∉ e.2.1.reads
  dist : ∀ e ∈ pd, ∀ e' ∈ pd, lc.getD e.1 true = false → lc.getD e'.1 true = false → e.1 ≠ e'.1 → ∀ d, e.2.1.d = some d → e'.2.1.d ≠ some d
  r : ∃ ι S σc, R C ι S σc H a w ∧ ∀ t, (∀ e ∈ pd, lc.getD e.1 true = false → e.2.1.d ≠ some t) → Slots.get σc t = Slots.get σ t

section
variable {C : Ctx} {ops : Array Oper} {K : Slots → LH → Prop} {Q : Exit → Act → World → Prop}

def Hit (P : Program) (n : Nat) (ops : Array Oper) (K : Slots → LH → Prop) (la : Array Bool) (pd : List (Nat × IOp × AV)) (σ : Slots) (H : LH) (i : Nat) : Prop :=
  ∃ ii ms t' o, ops[i]? = some o ∧ chkIOp P n ops o ii = true ∧ chkSel (aft o) ms (pd.map fun e => (e.1, e.2.1)) = true ∧
    chkPend (aft o) ii ((sel ms pd).map fun e => (e.1, e.2.1)) = true ∧ chkDT P n ops t' (la.setIfInBounds i true) ((sel ms pd).map fun e => (e.1, e.2.1)) true = true ∧
    stepW P σ H ii fun v ws => pendW P (Slots.put σ ii.d v) (LH.sets H ws) (sel ms pd) ∧ drawW P K t' (sel ms pd) (Slots.put σ ii.d v) (LH.sets H ws)

theorem hit_of {la : Array Bool} {pd : List (Nat × IOp × AV)} {i n : Nat} : ∀ (t : DT) (hd : Bool), chkDT P n ops t la (pd.map fun e => (e.1, e.2.1)) hd = true → drawW P K t pd σ H → i ∈ t.brs → Hit P n ops K la pd σ H i
  | .br k ii ms t r, hd, hc, hw, hi => by
    simp only [chkDT, Bool.and_eq_true] at hc
    obtain ⟨⟨⟨_, hrk⟩, ho⟩, hr⟩ := hc
    simp only [DT.brs, List.mem_cons] at hi
    by_cases e : i = k
    · subst e
      split at ho
      · rename_i o hop
        simp only [Bool.and_eq_true] at ho
        refine ⟨ii, ms, t, o, hop, ho.1.1.1, ho.1.1.2, ?_, ?_, hw.1⟩
        · rw [sel_map]; exact ho.1.2
        · rw [sel_map]; exact ho.2
      · cases ho
    · exact hit_of r false hr hw.2 (hi.resolve_left e)
  | .done, _, _, _, hi => by simp [DT.brs] at hi
  | .no, _, _, _, hi => by simp [DT.brs] at hi
  | .take _ _ _, _, _, _, hi => by simp [DT.brs] at hi

theorem R.slots {ι : Nat → Loc} {S : Nat → Prop} {a : Act} {w : World} (h : R C ι S σ H a w) (e : ∀ t, Slots.get σ t = Slots.get σ' t) : R C ι S σ' H a w :=
  ⟨h.fr, h.hr, fun t => e t ▸ h.sl t, h.own, h.sup, h.sub, h.loc, h.size, h.defs⟩

theorem dIn_not {d : Option Nat} {l : List Nat} (h : dIn d l = false) : ∀ x, d = some x → x ∉ l := by
  intro x hx hm
  subst hx
  simp [dIn, hm] at h
theorem dNe_not {d d' : Option Nat} (h : dNe d d' = true) : ∀ x, d = some x → d' ≠ some x := by
  intro x hx hm
  subst hx; subst hm
  simp [dNe] at h

theorem finish {lc la : Array Bool} {pd : List (Nat × IOp × AV)} {a : Act} {w : World} {t : DT} (ht : chkText ops = true) (hq : ∀ ι S σ H a w, K σ H → R C ι S σ H a w → Q .normal a w)
    (hI : Inv P C ops lc la pd σ H a w) (hc : chkDT P C.n ops t la (pd.map fun e => (e.1, e.2.1)) true = true) (hw : drawW P K t pd σ H) (hr : Region.ready .any ops lc = []) : Q .normal a w := by
  have hall := ready_all ht hI.sc hr
  have hla : ∀ j, la.getD j true = true := fun j => by
    cases hb : la.getD j true with
    | true => rfl
    | false => have := hI.up j hb; rw [hall j] at this; cases this
  have hno : ∀ k, (Region.ready .any ops la).contains k = false := fun k => by
    cases hb : (Region.ready .any ops la).contains k with
    | false => rfl
    | true =>
      have := (mem_ready.1 (List.contains_iff_mem.1 hb)).1
      rw [hla k] at this; cases this
  cases t with
  | done =>
    obtain ⟨ι, S, σc, hR, he⟩ := hI.r
    refine hq ι S σ H a w hw (hR.slots fun t => he t fun e _ hf => ?_)
    rw [hall] at hf; cases hf
  | no => simp [chkDT] at hc
  | take k i t =>
    simp only [chkDT, Bool.and_eq_true] at hc
    rw [hno k] at hc
    cases hc.1.2
  | br k i ms t r =>
    simp only [chkDT, Bool.and_eq_true] at hc
    rw [hno k] at hc
    cases hc.1.1.2


/-- A waiting one comes up. -/
theorem inv_pend {lc la : Array Bool} {pd : List (Nat × IOp × AV)} {a : Act} {w : World} (hI : Inv P C ops lc la pd σ H a w) {e : Nat × IOp × AV} (he : e ∈ pd) (hl : lc.getD e.1 true = false)
    {o : Oper} (ho : ops[e.1]? = some o) (hdep : ∀ j ∈ aft o, lc.getD j true = true) {N : Act → World → Prop} {Q : Exit → Act → World → Prop}
    (hN : ∀ a w, Inv P C ops (lc.setIfInBounds e.1 true) la pd σ H a w → N a w) :
    (Region.wanted o (yielded ops a.tmps) = true → o.wp P a w N Q) ∧ (Region.wanted o (yielded ops a.tmps) = false → N (a.put o.dst undef) w) := by
  obtain ⟨ι, S, σc, hR, hsl⟩ := hI.r
  obtain ⟨hqt, ⟨o', ho', hck⟩, hset, hget⟩ := hI.hold e he hl
  rw [ho] at ho'; cases ho'
  have hst : stepW P σc H e.2.1 fun v' ws => ws = [] ∧ v' = e.2.2 := by
    rw [stepW_congr (σ' := σ)]
    · exact hset _ ⟨rfl, rfl⟩
    · intro t ht
      refine hsl t fun e' he' hl' hd => ?_
      rcases hI.pair e he e' he' hl hl' o ho with h1 | h1
      · rw [hdep _ h1] at hl'; cases hl'
      · exact h1 t hd ht
  refine step_sound hR hck hst (fun av ws ι' S' w' v hk hR' hv => ?_)
  obtain ⟨rfl, rfl⟩ := hk
  have hi := hck
  simp only [chkIOp, Bool.and_eq_true, beq_iff_eq] at hi
  have hdd : o.dst = e.2.1.d := hi.1.1.1
  refine hN _ _ ⟨by simp [hI.sc], hI.sa, fun j hj => ?_, fun j hj => ?_, hI.list, hI.uniq, fun e' he' hl' => ?_, fun e1 h1 e2 h2 l1 l2 => ?_, fun e1 h1 e2 h2 l1 l2 => ?_, ?_⟩
  · refine set_get.2 ⟨fun hje => ?_, hI.up j hj⟩
    subst hje
    rw [hI.list e he] at hj; cases hj
  · exact hI.dn j (set_get.1 hj).2
  · exact hI.hold e' he' (set_get.1 hl').2
  · exact hI.pair e1 h1 e2 h2 (set_get.1 l1).2 (set_get.1 l2).2
  · exact hI.dist e1 h1 e2 h2 (set_get.1 l1).2 (set_get.1 l2).2
  · refine ⟨ι', S', Slots.put σc o.dst e.2.2, hR'.put hv (fun k hk => ?_), fun t ht => ?_⟩
    · have := hi.1.1.2
      rw [← hdd, hk] at this
      simpa using this
    · rw [hdd]
      have old : e.2.1.d ≠ some t → Slots.get σc t = Slots.get σ t := fun hne => hsl t fun e' he' hl' hd => by
        by_cases hee : e'.1 = e.1
        · rw [hI.uniq e' he' e he hee] at hd; exact hne hd
        · exact ht e' he' (set_get.2 ⟨hee, hl'⟩) hd
      cases hd : e.2.1.d with
      | none => exact old (by rw [hd]; simp)
      | some d =>
        simp only [Slots.put, Slots.get_set]
        by_cases htd : t = d
        · subst htd
          rw [if_pos rfl, hget _ hd]
        · rw [if_neg htd]
          exact old (by rw [hd]; simpa using Ne.symm htd)

/-- Another comes up. -/
theorem inv_hit {lc la : Array Bool} {pd : List (Nat × IOp × AV)} {a : Act} {w : World} (hI : Inv P C ops lc la pd σ H a w) {i : Nat} (hl : lc.getD i true = false) (hla : la.getD i true = false)
    {o : Oper} (ho : ops[i]? = some o) (hdep : ∀ j ∈ aft o, lc.getD j true = true) (hh : Hit P C.n ops K la pd σ H i) {N : Act → World → Prop} {Q : Exit → Act → World → Prop}
    (hN : ∀ t' pd' σ' H' a w, Inv P C ops (lc.setIfInBounds i true) (la.setIfInBounds i true) pd' σ' H' a w → chkDT P C.n ops t' (la.setIfInBounds i true) (pd'.map fun e => (e.1, e.2.1)) true = true →
      drawW P K t' pd' σ' H' → N a w) :
    (Region.wanted o (yielded ops a.tmps) = true → o.wp P a w N Q) ∧ (Region.wanted o (yielded ops a.tmps) = false → N (a.put o.dst undef) w) := by
  obtain ⟨ι, S, σc, hR, hsl⟩ := hI.r
  obtain ⟨ii, ms, t', o', ho', hck, hsel, hpend, hct, hst⟩ := hh
  rw [ho] at ho'; cases ho'
  have live : ∀ e ∈ pd, lc.getD e.1 true = false → e ∈ sel ms pd := fun e he hle => by
    rcases sel_or ms pd hsel e he with h1 | h1
    · exact h1
    · rw [hdep _ h1] at hle; cases hle
  have hpe : ∀ e ∈ sel ms pd, lc.getD e.1 true = false → (∀ d, e.2.1.d = some d → d ∉ ii.reads) ∧ ∀ d, ii.d = some d → e.2.1.d ≠ some d := fun e he hle => by
    have h1 := List.all_eq_true.1 hpend (e.1, e.2.1) (List.mem_map.2 ⟨e, he, rfl⟩)
    simp only [Bool.and_eq_true, Bool.or_eq_true, Bool.not_eq_true', List.contains_iff_mem] at h1
    refine ⟨?_, dNe_not h1.2⟩
    rcases h1.1 with h2 | h2
    · rw [hdep _ h2] at hle; cases hle
    · exact dIn_not h2
  have hst' := hst
  rw [stepW_congr (σ' := σc)] at hst'
  · refine step_sound hR hck hst' (fun av ws ι' S' w' v hk hR' hv => ?_)
    obtain ⟨hpw, hdw⟩ := hk
    have hi := hck
    simp only [chkIOp, Bool.and_eq_true, beq_iff_eq] at hi
    have hdd : o.dst = ii.d := hi.1.1.1
    refine hN t' (sel ms pd) _ _ _ _ ⟨by simp [hI.sc], by simp [hI.sa], fun j hj => ?_, fun j hj => ?_, fun e he => ?_, fun e he e' he' => hI.uniq e (sel_mem _ _ _ he) e' (sel_mem _ _ _ he'),
      fun e he hle => ?_, fun e he e' he' h1 h2 => hI.pair e (sel_mem _ _ _ he) e' (sel_mem _ _ _ he') (set_get.1 h1).2 (set_get.1 h2).2,
      fun e he e' he' h1 h2 => hI.dist e (sel_mem _ _ _ he) e' (sel_mem _ _ _ he') (set_get.1 h1).2 (set_get.1 h2).2, ?_⟩ hct hdw
    · have := set_get.1 hj
      exact set_get.2 ⟨this.1, hI.up j this.2⟩
    · have hj' := set_get.1 hj
      rcases hI.dn j hj'.2 with h1 | ⟨e, he, rfl⟩
      · exact .inl (set_get.2 ⟨hj'.1, h1⟩)
      · exact .inr ⟨e, live e he hj'.2, rfl⟩
    · have := hI.list e (sel_mem _ _ _ he)
      cases hb : (la.setIfInBounds i true).getD e.1 true with
      | true => rfl
      | false => rw [(set_get.1 hb).2] at this; cases this
    · have hle' := (set_get.1 hle).2
      obtain ⟨hq1, hq2, hq3, hq4⟩ := hI.hold e (sel_mem _ _ _ he) hle'
      obtain ⟨v', hv', hs'⟩ := ex_step hq1 (pend_mem _ hpw e he)
      refine ⟨hq1, hq2, fun K' hk' => hs' K' (hv'.2 ▸ hk'), fun d hd => ?_⟩
      have hne := (hpe e he hle').2
      cases hdi : ii.d with
      | none => simp only [Slots.put]; exact hq4 d hd
      | some d' =>
        simp only [Slots.put, Slots.get_set]
        rw [if_neg (fun e1 => hne d' hdi (by rw [hd, e1]))]
        exact hq4 d hd
    · refine ⟨ι', S', Slots.put σc o.dst av, hR'.put hv (fun k hk => ?_), fun t ht => ?_⟩
      · have := hi.1.1.2
        rw [← hdd, hk] at this
        simpa using this
      · rw [hdd]
        have old : ii.d ≠ some t → Slots.get σc t = Slots.get σ t := fun hne => hsl t fun e' he' hl' hd => by
          refine ht e' (live e' he' hl') (set_get.2 ⟨fun h1 => ?_, hl'⟩) hd
          have := hI.list e' he'
          rw [h1, hla] at this; cases this
        cases hd : ii.d with
        | none => exact old (by rw [hd]; simp)
        | some d =>
          simp only [Slots.put, Slots.get_set]
          by_cases htd : t = d
          · rw [if_pos htd, if_pos htd]
          · rw [if_neg htd, if_neg htd]
            exact old (by rw [hd]; simpa using Ne.symm htd)
  · intro t ht
    refine (hsl t fun e' he' hl' hd => ?_).symm
    exact (hpe e' (live e' he' hl') hl').1 t hd ht

/-- One is taken. -/
theorem inv_take {lc la : Array Bool} {pd : List (Nat × IOp × AV)} {a : Act} {w : World} (hI : Inv P C ops lc la pd σ H a w) {k : Nat} {i : IOp} {t : DT}
    (hc : chkDT P C.n ops (.take k i t) la (pd.map fun e => (e.1, e.2.1)) true = true) (hw : drawW P K (.take k i t) pd σ H) :
    ∃ pd' σ', Inv P C ops lc (la.setIfInBounds k true) pd' σ' H a w ∧ chkDT P C.n ops t (la.setIfInBounds k true) (pd'.map fun e => (e.1, e.2.1)) true = true ∧ drawW P K t pd' σ' H := by
  simp only [chkDT, Bool.and_eq_true] at hc
  obtain ⟨⟨_, hrk⟩, hc⟩ := hc
  have hrk := mem_ready.1 (List.contains_iff_mem.1 hrk)
  split at hc
  case h_2 => cases hc
  rename_i o ho
  simp only [Bool.and_eq_true, Bool.not_eq_true'] at hc
  obtain ⟨⟨⟨⟨⟨hck, hqt⟩, hpend⟩, hself⟩, hall⟩, hct⟩ := hc
  obtain ⟨v, ⟨_, hdw⟩, hset⟩ := ex_step hqt hw
  have hself := dIn_not hself
  have hks : k < la.size := by
    by_cases hl : k < la.size
    · exact hl
    · have := hrk.1; simp [hl] at this
  have hnew : ∀ e ∈ pd, e.1 ≠ k := fun e he hk => by
    have := hI.list e he
    rw [hk, hrk.1] at this; cases this
  have hpe : ∀ e ∈ pd, ((e.1 ∈ aft o) ∨ ∀ d, e.2.1.d = some d → d ∉ i.reads) ∧ ∀ d, i.d = some d → e.2.1.d ≠ some d := fun e he => by
    have h1 := List.all_eq_true.1 hpend (e.1, e.2.1) (List.mem_map.2 ⟨e, he, rfl⟩)
    simp only [Bool.and_eq_true, Bool.or_eq_true, Bool.not_eq_true', List.contains_iff_mem] at h1
    exact ⟨h1.1.imp id dIn_not, dNe_not h1.2⟩
  have hpr : ∀ e ∈ pd, ∀ d, i.d = some d → d ∉ e.2.1.reads := fun e he => by
    have h1 := List.all_eq_true.1 hall (e.1, e.2.1) (List.mem_map.2 ⟨e, he, rfl⟩)
    simp only [Bool.not_eq_true'] at h1
    exact dIn_not h1
  have hput : ∀ t, i.d ≠ some t → Slots.get (Slots.put σ i.d v) t = Slots.get σ t := fun t ht => by
    cases hd : i.d with
    | none => rfl
    | some d =>
      simp only [Slots.put, Slots.get_set]
      rw [if_neg (fun e1 => ht (by rw [hd, e1]))]
  have hput' : ∀ d, i.d = some d → Slots.get (Slots.put σ i.d v) d = v := fun d hd => by
    rw [hd]
    simp only [Slots.put, Slots.get_set, if_true]
  refine ⟨(k, i, v) :: pd, Slots.put σ i.d v, ⟨hI.sc, by simp [hI.sa], fun j hj => hI.up j (set_get.1 hj).2, fun j hj => ?_, fun e he => ?_, fun e he e' he' hee => ?_, fun e he hle => ?_,
    fun e he e' he' hl1 hl2 o1 ho1 => ?_, fun e he e' he' hl1 hl2 hne d hd => ?_, ?_⟩, hct, hdw⟩
  · rcases hI.dn j hj with h1 | ⟨e, he, h1⟩
    · by_cases hjk : j = k
      · exact .inr ⟨_, List.mem_cons_self, hjk.symm⟩
      · exact .inl (set_get.2 ⟨hjk, h1⟩)
    · exact .inr ⟨e, List.mem_cons_of_mem _ he, h1⟩
  · cases hb : (la.setIfInBounds k true).getD e.1 true with
    | true => rfl
    | false =>
      have := set_get.1 hb
      rcases List.mem_cons.1 he with rfl | he
      · exact absurd rfl this.1
      · rw [hI.list e he] at this; cases this.2
  · rcases List.mem_cons.1 he with rfl | he <;> rcases List.mem_cons.1 he' with rfl | he'
    · rfl
    · exact absurd hee.symm (hnew e' he')
    · exact absurd hee (hnew e he)
    · exact hI.uniq e he e' he' hee
  · rcases List.mem_cons.1 he with rfl | he
    · refine ⟨hqt, ⟨o, ho, hck⟩, fun K' hk' => ?_, hput'⟩
      rw [stepW_congr (σ' := σ)]
      · exact hset K' hk'
      · exact fun t ht => hput t fun hd => hself t hd ht
    · obtain ⟨hq1, hq2, hq3, hq4⟩ := hI.hold e he hle
      refine ⟨hq1, hq2, fun K' hk' => ?_, fun d hd => ?_⟩
      · rw [stepW_congr (σ' := σ)]
        · exact hq3 K' hk'
        · exact fun t ht => hput t fun hd => hpr e he t hd ht
      · rw [hput d fun h1 => (hpe e he).2 d h1 hd]
        exact hq4 d hd
  · rcases List.mem_cons.1 he with rfl | he <;> rcases List.mem_cons.1 he' with rfl | he'
    · exact .inr hself
    · have e1 : some o1 = some o := by rw [← ho1, ← ho]
      cases e1
      exact (hpe e' he').1
    · exact .inr (hpr e he)
    · exact hI.pair e he e' he' hl1 hl2 o1 ho1
  · rcases List.mem_cons.1 he with rfl | he <;> rcases List.mem_cons.1 he' with rfl | he'
    · exact absurd rfl hne
    · exact (hpe e' he').2 d hd
    · exact fun h1 => (hpe e he).2 d h1 hd
    · exact hI.dist e he e' he' hl1 hl2 hne d hd
  · obtain ⟨ι, S, σc, hR, hsl⟩ := hI.r
    refine ⟨ι, S, σc, hR, fun t ht => ?_⟩
    have hki : lc.getD k true = false := hI.up k hrk.1
    rw [hput t (ht _ List.mem_cons_self hki)]
    exact hsl t fun e he => ht e (List.mem_cons_of_mem _ he)

theorem draw_main (htx : chkText ops = true) (hq : ∀ ι S σ H a w, K σ H → R C ι S σ H a w → Q .normal a w) : ∀ (fuel : Nat) (t : DT) (lc la : Array Bool) (pd : List (Nat × IOp × AV)) (σ : Slots) (H : LH) (a : Act) (w : World),
    Inv P C ops lc la pd σ H a w → chkDT P C.n ops t la (pd.map fun e => (e.1, e.2.1)) true = true → drawW P K t pd σ H → cnt lc ≤ fuel → wpAny P .any ops Q fuel lc a w := by
  intro fuel
  induction fuel with
  | zero =>
    intro t lc la pd σ H a w hI hc hw hn
    have hz := cnt_zero (Nat.le_zero.1 hn)
    have hr : Region.ready .any ops lc = [] := by
      cases hr : Region.ready .any ops lc with
      | nil => rfl
      | cons x l =>
        have := (mem_ready.1 (show x ∈ Region.ready .any ops lc by rw [hr]; simp)).1
        rw [hz x] at this; cases this
    exact ⟨hr, finish htx hq hI hc hw hr⟩
  | succ fuel ih =>
    intro t
    have loud : ∀ (t : DT), (∀ k i r, t ≠ .take k i r) → ∀ (lc la : Array Bool) (pd : List (Nat × IOp × AV)) (σ : Slots) (H : LH) (a : Act) (w : World),
        Inv P C ops lc la pd σ H a w → chkDT P C.n ops t la (pd.map fun e => (e.1, e.2.1)) true = true → drawW P K t pd σ H → cnt lc ≤ fuel + 1 → wpAny P .any ops Q (fuel + 1) lc a w := by
      intro t hnt lc la pd σ H a w hI hc hw hn
      refine ⟨fun hr => finish htx hq hI hc hw hr, fun i hi => ?_⟩
      obtain ⟨hli, o, ho, hdeps⟩ := mem_ready.1 hi
      have hdep : ∀ j ∈ aft o, lc.getD j true = true := fun j hj => by
        obtain ⟨e, he, rfl⟩ := List.mem_map.1 hj
        obtain ⟨he1, he2⟩ := List.mem_filter.1 he
        have h1 := hdeps e (Array.mem_toList_iff.1 he1) he2
        by_cases hl : e.on < lc.size
        · simp [hl] at h1 ⊢; exact h1
        · simp [hl]
      have hcn := cnt_set hli
      have key : (Region.wanted o (yielded ops a.tmps) = true → o.wp P a w (wpAny P .any ops Q fuel (lc.setIfInBounds i true)) Q) ∧
          (Region.wanted o (yielded ops a.tmps) = false → wpAny P .any ops Q fuel (lc.setIfInBounds i true) (a.put o.dst undef) w) := by
        rcases hI.dn i hli with hla | ⟨e, he, rfl⟩
        · have hrla : i ∈ Region.ready .any ops la := mem_ready.2 ⟨hla, o, ho, fun e he hb => by
            have h1 := hdeps e he hb
            have h2 : lc.getD e.on true = true := hdep _ (List.mem_map.2 ⟨e, List.mem_filter.2 ⟨Array.mem_toList_iff.2 he, hb⟩, rfl⟩)
            cases h3 : la.getD e.on true with
            | false => rw [hI.up _ h3] at h2; cases h2
            | true =>
              have : e.on < lc.size := by
                by_cases hl : e.on < lc.size
                · exact hl
                · simp [hl] at h1
              have : e.on < la.size := by rw [hI.sa, ← hI.sc]; exact this
              simp [this] at h3 ⊢; exact h3⟩
          have hbr : i ∈ t.brs := by
            cases t with
            | take k ii r => exact absurd rfl (hnt k ii r)
            | done =>
              simp only [chkDT, Bool.not_true, Bool.false_or, List.isEmpty_iff] at hc
              rw [hc] at hrla; cases hrla
            | no => simp [chkDT] at hc
            | br k ii ms t r =>
              simp only [chkDT, Bool.and_eq_true, Bool.not_true, Bool.false_or, List.all_eq_true] at hc
              exact List.contains_iff_mem.1 (hc.1.1.1 i hrla)
          exact inv_hit hI hli hla ho hdep (hit_of t true hc hw hbr) (fun t' pd' σ' H' a' w' hI' hc' hw' => ih t' _ _ pd' σ' H' a' w' hI' hc' hw' (by omega))
        · exact inv_pend hI he hli ho hdep (fun a' w' hI' => ih t _ _ pd σ H a' w' hI' hc hw (by omega))
      unfold wpOp
      rw [ho]
      by_cases hwant : Region.wanted o (yielded ops a.tmps) = true
      · simp only [hwant, if_true]; exact .inl (key.1 hwant)
      · simp only [hwant]; exact key.2 (by simpa using hwant)
    induction t with
    | take k i t iht =>
      intro lc la pd σ H a w hI hc hw hn
      obtain ⟨pd', σ', hI', hc', hw'⟩ := inv_take hI hc hw
      exact iht lc _ pd' σ' H a w hI' hc' hw' hn
    | done => exact loud _ (fun _ _ _ h => by cases h)
    | no => exact loud _ (fun _ _ _ h => by cases h)
    | br => exact loud _ (fun _ _ _ h => by cases h)

theorem R.drawn {ι : Nat → Loc} {S : Nat → Prop} {a : Act} {w : World} (h : R C ι S σ H a w) (n : Nat) : R C ι S σ H a { w with drawn := n } := h.heap rfl rfl rfl rfl

def chkDraw (P : Program) (n : Nat) (ops : Array Oper) (t : DT) : Bool := P.follows .mixedOrders && chkText ops && chkDT P n ops t (Array.replicate ops.size false) [] true

theorem draw_sound {id : Nat} {t : DT} {ι : Nat → Loc} {S : Nat → Prop} {a : Act} {w : World} (hc : chkDraw P C.n ops t = true) (h : R C ι S σ H a w) (hw : drawW P K t [] σ H)
    (hq : ∀ ι S σ H a w, K σ H → R C ι S σ H a w → Q .normal a w) : (Code.region id ops true).wp P Q a w := by
  simp only [chkDraw, Bool.and_eq_true] at hc
  refine wp_region_any hc.1.1 (draw_main hc.1.2 hq ops.size t _ (Array.replicate ops.size false) [] σ H a _ ⟨by simp, by simp, fun j hj => hj, fun j hj => .inl hj, ?_, ?_, ?_, ?_, ?_, ι, S, σ, h.drawn _, fun _ _ => rfl⟩ hc.2 hw ?_)
  all_goals try (intro e he; cases he)
  unfold cnt
  exact Nat.le_trans List.count_le_length (by simp)

end
end
end Go.Proofs.Ytcpdnpaedkcebaa.V
