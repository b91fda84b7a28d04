/-
  How the abstract heap follows the machine's: new rows, stores, tails; and that the relation is kept.
  Conditions: none; nothing here speaks of one program.
-/
import Derived.Test.YtkpeknkpleocgaaDoorEngB
set_option linter.unusedSimpArgs false
set_option linter.unusedVariables false
namespace Go.AL
open Go

def Hp.new (H : Hp) (x : AB) : Hp := ⟨fun b => if b = H.n then some x else H.f b, H.n + 1, fun b hb => by rw [if_neg (by omega)]; exact H.wf b (by omega)⟩
def Hp.set (H : Hp) (b : Nat) (x : AB) : Hp := ⟨fun b' => if b' = b ∧ b < H.n then some x else H.f b', H.n, fun b' hb => by rw [if_neg (by omega)]; exact H.wf b' hb⟩
def Hp.kill (H : Hp) (b : Nat) : Hp := ⟨fun b' => if b' = b then none else H.f b', H.n, fun b' hb => by
  by_cases h : b' = b
  · rw [if_pos h]
  · rw [if_neg h]; exact H.wf b' hb⟩
def Hp.trunc (H : Hp) (n : Nat) : Hp := ⟨fun b => if b < n then H.f b else none, n, fun b hb => by rw [if_neg (by omega)]⟩

theorem Hp.ext {H H' : Hp} (hf : ∀ b, H.f b = H'.f b) (hn : H.n = H'.n) : H = H' := by
  cases H; cases H'; simp only at hf hn; have := funext hf; subst this; subst hn; rfl

theorem Hp.lt {H : Hp} {b : Nat} {x : AB} (h : H.f b = some x) : b < H.n := by
  rcases Nat.lt_or_ge b H.n with h' | h'
  · exact h'
  · rw [H.wf b h'] at h; cases h

section
variable (H : Hp) (x y : AB) (b b' : Nat)
theorem Hp.n_new : (H.new x).n = H.n + 1 := rfl
theorem Hp.n_set : (H.set b x).n = H.n := rfl
theorem Hp.n_kill : (H.kill b).n = H.n := rfl
theorem Hp.n_trunc : (H.trunc b).n = b := rfl
theorem Hp.f_new : (H.new x).f b = if b = H.n then some x else H.f b := rfl
theorem Hp.f_set : (H.set b x).f b' = if b' = b ∧ b < H.n then some x else H.f b' := rfl
theorem Hp.f_kill : (H.kill b).f b' = if b' = b then none else H.f b' := rfl
theorem Hp.f_trunc : (H.trunc b).f b' = if b' < b then H.f b' else none := rfl
theorem Hp.f_new_self : (H.new x).f H.n = some x := by simp [Hp.f_new]
theorem Hp.f_new_old (h : b < H.n) : (H.new x).f b = H.f b := by simp [Hp.f_new]; omega
theorem Hp.f_set_self (h : b < H.n) : (H.set b x).f b = some x := by simp [Hp.f_set, h]
theorem Hp.f_set_ne (h : b' ≠ b) : (H.set b x).f b' = H.f b' := by simp [Hp.f_set, h]
theorem Hp.set_new_self : (H.new x).set H.n y = H.new y := Hp.ext (fun b => by simp only [Hp.f_set, Hp.f_new, Hp.n_new]; by_cases h : b = H.n <;> simp [h]) rfl
theorem Hp.set_new_old (h : b < H.n) : (H.new x).set b y = (H.set b y).new x := Hp.ext (fun c => by
  simp only [Hp.f_set, Hp.f_new, Hp.n_new, Hp.n_set]
  by_cases h1 : c = b
  · subst h1; simp [h, Nat.ne_of_lt h, Nat.lt_succ_of_lt h]
  · simp [h1]) rfl
theorem Hp.trunc_self : H.trunc H.n = H := Hp.ext (fun b => by
  simp only [Hp.f_trunc]; split
  · rfl
  · exact (H.wf b (by omega)).symm) rfl
theorem Hp.trunc_new (h : b ≤ H.n) : (H.new x).trunc b = H.trunc b := Hp.ext (fun c => by
  simp only [Hp.f_trunc, Hp.f_new]; split
  · rw [if_neg (by omega)]
  · rfl) rfl
theorem Hp.trunc_set (h : b' ≤ b) : (H.set b x).trunc b' = H.trunc b' := Hp.ext (fun c => by
  simp only [Hp.f_trunc, Hp.f_set]; split
  · rw [if_neg (by omega)]
  · rfl) rfl
theorem Hp.trunc_kill (h : b' ≤ b) : (H.kill b).trunc b' = H.trunc b' := Hp.ext (fun c => by
  simp only [Hp.f_trunc, Hp.f_kill]; split
  · rw [if_neg (by omega)]
  · rfl) rfl
theorem Hp.set_set : (H.set b x).set b y = H.set b y := Hp.ext (fun c => by
  simp only [Hp.f_set, Hp.n_set]; by_cases h : c = b ∧ b < H.n <;> simp [h]) rfl
theorem Hp.set_same (h : H.f b = some x) : H.set b x = H := Hp.ext (fun c => by
  simp only [Hp.f_set]; split
  · rename_i hc; rw [hc.1, h]
  · rfl) rfl
end

theorem Bel.new {H : Hp} {x : AB} {n : Nat} (hn : n ≤ H.n) : Bel n (H.new x) ↔ Bel n H :=
  ⟨fun h b cs hb hf => h b cs hb (by rw [Hp.f_new_old H x b (by omega)]; exact hf), fun h b cs hb hf => h b cs hb (by rwa [Hp.f_new_old H x b (by omega)] at hf)⟩
theorem Bel.set_hi {H : Hp} {x : AB} {n b : Nat} (hn : n ≤ b) : Bel n (H.set b x) ↔ Bel n H :=
  ⟨fun h c cs hb hf => h c cs hb (by rw [Hp.f_set_ne H x b c (by omega)]; exact hf), fun h c cs hb hf => h c cs hb (by rwa [Hp.f_set_ne H x b c (by omega)] at hf)⟩
theorem Bel.set_cells {H : Hp} {cs : List AV} {n b : Nat} (h : Bel n H) (hc : ∀ x ∈ cs, BelowN n x) : Bel n (H.set b (.cells cs)) := fun c ds hb hf => by
  rw [Hp.f_set] at hf
  split at hf
  · cases hf; exact hc
  · exact h c ds hb hf
theorem Bel.set_tail {H : Hp} {k : Nat} {n b : Nat} (h : Bel n H) : Bel n (H.set b (.tail k)) := fun c ds hb hf => by
  rw [Hp.f_set] at hf
  split at hf
  · cases hf; simp [AB.vals]
  · exact h c ds hb hf

section states
variable {G : Globs} {σ : Gh} {H : Hp} {w : World}

theorem Rel.c_lt (hr : Rel G σ H w) {b cs} (h : H.f b = some (.cells cs)) : σ.c b < w.heap.size := by
  obtain ⟨c, e, hw, _⟩ := hr.cells b cs h
  exact (Array.getElem?_eq_some_iff.1 hw).1

theorem Rel.t_lt (hr : Rel G σ H w) {b k d g o s} (h : H.f b = some (.tl k d)) (ht : σ.t b = some (g, o, s)) : g < w.heap.size := by
  obtain ⟨c, e, hw, _⟩ := hr.tail b k d g o s h ht
  exact (Array.getElem?_eq_some_iff.1 hw).1

/-- The relation with all readings carried over. -/
theorem Rel.glob_mono {σ' : Gh} {H' : Hp} {w' : World} (hr : Rel G σ H w) (hev : Ev H.n σ H w σ' H' w') : ∀ g sz xs, G g = some (sz, xs) → RelV σ' H' w' (.ip sz xs 0 0) (.pointer (some ⟨g, 0, none⟩)) :=
  fun g sz xs h => (hr.glob g sz xs h).mono hev

/-- The blocks that are no rows stay as they are. -/
theorem Rel.objs_keep {σ' : Gh} {H' : Hp} {w' : World} (hr : Rel G σ H w) (hev : Ev H.n σ H w σ' H' w') (hf : ∀ b vs S, H'.f b = some (.obj vs S) → H.f b = some (.obj vs S))
    (hw : ∀ (g : Nat) (o : Obj), w.heap[g]? = some o → isObj o = true → w'.heap[g]? = some o) :
    (∀ b vs S, H'.f b = some (.obj vs S) → ∃ o us, w'.heap[σ'.c b]? = some o ∧ isObj o = true ∧ RelVs σ' H' w' vs us ∧ S us o) ∧
    (∀ b b' vs vs' S S', H'.f b = some (.obj vs S) → H'.f b' = some (.obj vs' S') → σ'.c b = σ'.c b' → b = b') := by
  refine ⟨fun b vs S h => ?_, fun b b' vs vs' S S' h h' he => ?_⟩
  · have h0 := hf b vs S h
    obtain ⟨o, us, q1, q2, q3, q4⟩ := hr.objs b vs S h0
    exact ⟨o, us, by rw [hev.c b (Hp.lt h0)]; exact hw _ o q1 q2, q2, q3.mono hev, q4⟩
  · have h0 := hf b vs S h
    have h0' := hf b' vs' S' h'
    rw [hev.c b (Hp.lt h0), hev.c b' (Hp.lt h0')] at he
    exact hr.oo b b' vs vs' S S' h0 h0' he

/-- The rows that are written by name stay as they are. -/
theorem Rel.vec_keep {m : Nat} {σ' : Gh} {H' : Hp} {w' : World} (hr : Rel G σ H w) (hev : EvM H.n m σ H w σ' H' w') (hf : ∀ b k cs, H'.f b = some (.tl k (some cs)) → H.f b = some (.tl k (some cs)) ∧ σ'.t b = σ.t b)
    (hw : ∀ b k cs g o s, H'.f b = some (.tl k (some cs)) → H.f b = some (.tl k (some cs)) → σ.t b = some (g, o, s) → w'.heap[g]? = w.heap[g]?) :
    ∀ b k cs, H'.f b = some (.tl k (some cs)) → k = cs.length ∧ (σ'.t b = none → cs = []) ∧ ∀ g o s, σ'.t b = some (g, o, s) → o = 0 ∧ cs.length ≤ s ∧ ∀ (i : Nat) x, cs[i]? = some x → ∃ v, w'.cell? ⟨g, i, none⟩ = some v ∧ RelC σ' H' w' x v := by
  intro b k cs h
  obtain ⟨h0, ht⟩ := hf b k cs h
  obtain ⟨q0, q1, q2⟩ := hr.vec b k cs h0
  rw [ht]
  refine ⟨q0, q1, fun g o s hg => ?_⟩
  obtain ⟨p0, p1, p2⟩ := q2 g o s hg
  refine ⟨p0, p1, fun i x hx => ?_⟩
  obtain ⟨v, hv, hx⟩ := p2 i x hx
  exact ⟨v, by simpa [World.cell?, hw b k cs g o s h h0 hg] using hv, hx.mono hev⟩

theorem Rel.o_lt (hr : Rel G σ H w) {b vs S} (h : H.f b = some (.obj vs S)) : σ.c b < w.heap.size := by
  obtain ⟨o, us, hw, _⟩ := hr.objs b vs S h
  exact (Array.getElem?_eq_some_iff.1 hw).1

theorem heap_lt {w : World} {g : Nat} {o : Obj} (h : w.heap[g]? = some o) : g < w.heap.size := (Array.getElem?_eq_some_iff.1 h).1

/-- Blocks that nobody names, and draws. -/
theorem rel_grow (hr : Rel G σ H w) {w' : World} (hs : w.heap.size ≤ w'.heap.size) (hb : ∀ g, g < w.heap.size → w'.heap[g]? = w.heap[g]?) (ho : w'.os = w.os) (hu : w'.output = w.output) :
    Rel G σ H w' ∧ Ev H.n σ H w σ H w' := by
  have hev : Ev H.n σ H w σ H w' := ⟨fun g o v h1 h2 => ⟨h1, by
      have := hb g (World.block_lt_of_cell? (a := ⟨g, o, none⟩) w h2)
      simpa [World.cell?, this] using h2⟩, fun _ _ => rfl, Nat.le_refl _, fun _ _ k c hk => ⟨k, c, hk, Nat.le_refl _, fun _ => rfl⟩, hs, fun g hg hf => ⟨hb g hg, hf⟩, ho, hu⟩
  refine ⟨⟨fun b cs h => ?_, fun b k d g o s h ht => ?_, hr.vec_keep hev (fun _ _ _ h => ⟨h, rfl⟩) (fun b k cs g o s _ h ht => hb g (hr.t_lt h ht)), hr.cc, hr.ct, hr.tt, hr.glob_mono hev, (hr.objs_keep hev (fun _ _ _ h => h) fun g o h _ => (hb g (heap_lt h)).trans h).1, (hr.objs_keep hev (fun _ _ _ h => h) fun g o h _ => (hb g (heap_lt h)).trans h).2⟩, hev⟩
  · obtain ⟨c, e, h1, h2, h3⟩ := hr.cells b cs h
    exact ⟨c, e, (hb _ (hr.c_lt h)).trans h1, h2, fun i x hx => let ⟨v, a, b⟩ := h3 i x hx; ⟨v, a, b.mono hev⟩⟩
  · obtain ⟨c, e, h1, h2⟩ := hr.tail b k d g o s h ht
    exact ⟨c, e, (hb _ (hr.t_lt h ht)).trans h1, h2⟩

theorem rel_drew (hr : Rel G σ H w) : Rel G σ H w.drew ∧ Ev H.n σ H w σ H w.drew := rel_grow hr (Nat.le_refl _) (fun _ _ => rfl) rfl rfl
theorem rel_alloc (hr : Rel G σ H w) (o : Obj) : Rel G σ H (w.alloc o) ∧ Ev H.n σ H w σ H (w.alloc o) :=
  rel_grow hr (by simp) (fun g hg => heap_alloc_old w o hg) rfl rfl

def Gh.withC (σ : Gh) (b g : Nat) : Gh := { σ with c := fun x => if x = b then g else σ.c x }
def Gh.withT (σ : Gh) (b : Nat) (r : Option (Nat × Nat × Nat)) : Gh := { σ with t := fun x => if x = b then r else σ.t x }

/-- A new row of cells that gets a name. -/
theorem rel_new (hr : Rel G σ H w) (c : Array Value) (e : TypeId) (cs : List AV) (hl : cs.length ≤ c.size) (hc : ∀ (i : Nat) x, cs[i]? = some x → ∃ v, c[i]? = some v ∧ RelC σ H w x v) :
    Rel G (σ.withC H.n w.heap.size) (H.new (.cells cs)) (w.alloc (.cells c e)) ∧ Ev H.n σ H w (σ.withC H.n w.heap.size) (H.new (.cells cs)) (w.alloc (.cells c e)) := by
  have hold : ∀ b, b < H.n → (σ.withC H.n w.heap.size).c b = σ.c b := fun b hb => by simp [Gh.withC, Nat.ne_of_lt hb]
  have hnew : (σ.withC H.n w.heap.size).c H.n = w.heap.size := by simp [Gh.withC]
  have fobj : ∀ b vs S, (H.new (.cells cs)).f b = some (.obj vs S) → H.f b = some (.obj vs S) := by
    intro b vs S h
    rw [Hp.f_new] at h
    split at h
    · cases h
    · exact h
  have hstable : ∀ g o, g < w.heap.size → Stable σ H g o → Stable (σ.withC H.n w.heap.size) (H.new (.cells cs)) g o := by
    intro g o hg ⟨h1, h2⟩
    refine ⟨fun b cs' hb => ?_, fun b v d o' s hb ht => ?_⟩
    · rw [Hp.f_new] at hb
      split at hb
      · rename_i hbn; rw [hbn, hnew]; omega
      · rw [hold b (Hp.lt hb)]; exact h1 b cs' hb
    · rw [Hp.f_new] at hb
      split at hb
      · cases hb
      · exact h2 b v d o' s hb ht
  have hev : Ev H.n σ H w (σ.withC H.n w.heap.size) (H.new (.cells cs)) (w.alloc (.cells c e)) := by
    refine ⟨fun g o v h1 h2 => ?_, hold, by simp [Hp.n_new], fun b hb k d hk => ?_, by simp, fun g hg hf => ⟨heap_alloc_old w _ hg, ?_, ?_, ?_⟩, rfl, rfl⟩
    · have hlt : g < w.heap.size := World.block_lt_of_cell? (a := ⟨g, o, none⟩) w h2
      exact ⟨hstable g o hlt h1, by rw [World.cell?_alloc_lt (a := ⟨g, o, none⟩) w _ hlt]; exact h2⟩
    · rw [Hp.f_new_old H _ b hb] at hk
      exact ⟨k, d, hk, Nat.le_refl _, fun _ => rfl⟩
    · intro b cs' hb
      rw [Hp.f_new] at hb
      split at hb
      · rename_i hbn; rw [hbn, hnew]; omega
      · rw [hold b (Hp.lt hb)]; exact hf.1 b cs' hb
    · intro b v d o' s hb
      rw [Hp.f_new] at hb
      split at hb
      · cases hb
      · exact hf.2 b v d o' s hb
    · intro b vs S hb
      have hb := fobj b vs S hb
      rw [hold b (Hp.lt hb)]; exact hf.3 b vs S hb
  have fvec : ∀ b k ds, (H.new (.cells cs)).f b = some (.tl k (some ds)) → H.f b = some (.tl k (some ds)) := by
    intro b k ds h
    rw [Hp.f_new] at h
    split at h
    · cases h
    · exact h
  refine ⟨⟨fun b cs' hb => ?_, fun b k d g o s hb ht => ?_, hr.vec_keep hev (fun b k ds h => ⟨fvec b k ds h, rfl⟩) (fun b k ds g o s _ h ht => heap_alloc_old w _ (hr.t_lt h ht)), fun b b' x y hb hb' he => ?_, fun b b' x k d g o s hb hb' ht => ?_, fun b b' k d k' d' g o s o' s' hb hb' ht ht' => ?_, hr.glob_mono hev, (hr.objs_keep hev fobj fun g o h _ => (heap_alloc_old w _ (heap_lt h)).trans h).1, (hr.objs_keep hev fobj fun g o h _ => (heap_alloc_old w _ (heap_lt h)).trans h).2⟩, hev⟩
  · rw [Hp.f_new] at hb
    split at hb
    · rename_i hbn
      subst hbn
      cases hb
      exact ⟨c, e, by rw [hnew]; exact heap_alloc_new w _, hl, fun i x hx => let ⟨v, a, b⟩ := hc i x hx; ⟨v, a, b.mono hev⟩⟩
    · obtain ⟨c', e', h1, h2, h3⟩ := hr.cells b cs' hb
      exact ⟨c', e', by rw [hold b (Hp.lt hb), heap_alloc_old w _ (hr.c_lt hb)]; exact h1, h2, fun i x hx => let ⟨v, a, b⟩ := h3 i x hx; ⟨v, a, b.mono hev⟩⟩
  · rw [Hp.f_new] at hb
    split at hb
    · cases hb
    · obtain ⟨c', e', h1, h2⟩ := hr.tail b k d g o s hb ht
      exact ⟨c', e', by rw [heap_alloc_old w _ (hr.t_lt hb ht)]; exact h1, h2⟩
  · rw [Hp.f_new] at hb hb'
    split at hb <;> split at hb'
    · omega
    · rename_i h1 h2
      rw [h1, hnew, hold b' (Hp.lt hb')] at he
      have := hr.c_lt hb'; omega
    · rename_i h1 h2
      rw [h2, hnew, hold b (Hp.lt hb)] at he
      have := hr.c_lt hb; omega
    · rw [hold b (Hp.lt hb), hold b' (Hp.lt hb')] at he
      exact hr.cc b b' x y hb hb' he
  · rw [Hp.f_new] at hb hb'
    split at hb'
    · cases hb'
    · have ht' := hr.t_lt hb' ht
      split at hb
      · rename_i h1 h2; rw [h2, hnew]; omega
      · rw [hold b (Hp.lt hb)]; exact hr.ct b b' x k d g o s hb hb' ht
  · rw [Hp.f_new] at hb hb'
    split at hb <;> split at hb'
    · cases hb
    · cases hb
    · cases hb'
    · exact hr.tt b b' k d k' d' g o s o' s' hb hb' ht ht'

/-- The row of a name is written anew. -/
theorem rel_setRow (hr : Rel G σ H w) {b : Nat} {cs : List AV} (hb : H.f b = some (.cells cs)) {c : Array Value} {e : TypeId} (hw : w.heap[σ.c b]? = some (.cells c e (0, 0)))
    (c' : Array Value) (cs' : List AV) (hs : c'.size = c.size) (hl : cs'.length = cs.length) (hc : ∀ (i : Nat) x, cs'[i]? = some x → ∃ v, c'[i]? = some v ∧ RelC σ H w x v) :
    Rel G σ (H.set b (.cells cs')) (w.setRow (σ.c b) c') ∧ Ev H.n σ H w σ (H.set b (.cells cs')) (w.setRow (σ.c b) c') := by
  have hbn := Hp.lt hb
  have hother : ∀ g, g ≠ σ.c b → (w.setRow (σ.c b) c').heap[g]? = w.heap[g]? := fun g hg => by
    simp [World.setRow, Array.getElem?_modify, Ne.symm hg]
  have hself : (w.setRow (σ.c b) c').heap[σ.c b]? = some (.cells c' e (0, 0)) := by
    simp [World.setRow, Array.getElem?_modify, hw]
  have fcells : ∀ b' x, (H.set b (.cells cs')).f b' = some (.cells x) → ∃ y, H.f b' = some (.cells y) := by
    intro b' x h
    rw [Hp.f_set] at h
    split at h
    · rename_i hh; rw [hh.1]; exact ⟨cs, hb⟩
    · exact ⟨x, h⟩
  have ftail : ∀ b' k d, (H.set b (.cells cs')).f b' = some (.tl k d) → H.f b' = some (.tl k d) := by
    intro b' x d h
    rw [Hp.f_set] at h
    split at h
    · cases h
    · exact h
  have fobj : ∀ b' vs S, (H.set b (.cells cs')).f b' = some (.obj vs S) → H.f b' = some (.obj vs S) := by
    intro b' vs S h
    rw [Hp.f_set] at h
    split at h
    · cases h
    · exact h
  have hobj : ∀ (g : Nat) (o : Obj), w.heap[g]? = some o → isObj o = true → (w.setRow (σ.c b) c').heap[g]? = some o := fun g o h ho => by
    rw [hother g (fun e => by subst e; rw [hw] at h; cases h; cases ho)]; exact h
  have hstable : ∀ g o, Stable σ H g o → Stable σ (H.set b (.cells cs')) g o := fun g o ⟨h1, h2⟩ =>
    ⟨fun b' x h => let ⟨y, hy⟩ := fcells b' x h; h1 b' y hy, fun b' k d o' s h => h2 b' k d o' s (ftail b' k d h)⟩
  have hev : Ev H.n σ H w σ (H.set b (.cells cs')) (w.setRow (σ.c b) c') := by
    refine ⟨fun g o v h1 h2 => ⟨hstable g o h1, ?_⟩, fun _ _ => rfl, Nat.le_refl _, fun b' _ k d hk => ⟨k, d, ftail b' k d hk, Nat.le_refl _, fun _ => rfl⟩, by simp, fun g hg hf => ⟨hother g (Ne.symm (hf.1 b cs hb)), ?_, ?_, fun b' vs S h => hf.3 b' vs S (fobj _ _ _ h)⟩, rfl, rfl⟩
    · have := hother g (Ne.symm (h1.1 b cs hb))
      simpa [World.cell?, this] using h2
    · exact fun b' x h => let ⟨y, hy⟩ := fcells b' x h; hf.1 b' y hy
    · exact fun b' k d o' s h => hf.2 b' k d o' s (ftail b' k d h)
  refine ⟨⟨fun b' x hx => ?_, fun b' k d g o s h ht => ?_, hr.vec_keep hev (fun b' k ds h => ⟨ftail b' k _ h, rfl⟩) (fun b' k ds g o s _ h ht => hother g (Ne.symm (hr.ct b b' cs k _ g o s hb h ht))), fun b1 b2 x y h1 h2 he => ?_, fun b1 b2 x k d g o s h1 h2 ht => ?_, fun b1 b2 k d k' d' g o s o' s' h1 h2 ht ht' => ?_, hr.glob_mono hev, (hr.objs_keep hev fobj hobj).1, (hr.objs_keep hev fobj hobj).2⟩, hev⟩
  · by_cases hbb : b' = b
    · subst hbb
      rw [Hp.f_set_self H _ _ hbn] at hx
      cases hx
      obtain ⟨c1, e1, q1, q2, _⟩ := hr.cells b' cs hb
      rw [hw] at q1; cases q1
      exact ⟨c', e, hself, by omega, fun i x hx => let ⟨v, a, b⟩ := hc i x hx; ⟨v, a, b.mono hev⟩⟩
    · rw [Hp.f_set_ne H _ _ _ hbb] at hx
      obtain ⟨c1, e1, q1, q2, q3⟩ := hr.cells b' x hx
      refine ⟨c1, e1, (hother _ fun h => hbb (hr.cc b' b x cs hx hb h)).trans q1, q2, fun i y hy => let ⟨v, a, b⟩ := q3 i y hy; ⟨v, a, b.mono hev⟩⟩
  · obtain ⟨c1, e1, q1, q2⟩ := hr.tail b' k d g o s (ftail _ _ _ h) ht
    exact ⟨c1, e1, (hother g (Ne.symm (hr.ct b b' cs k d g o s hb (ftail _ _ _ h) ht))).trans q1, q2⟩
  · obtain ⟨x', hx'⟩ := fcells _ _ h1
    obtain ⟨y', hy'⟩ := fcells _ _ h2
    exact hr.cc b1 b2 x' y' hx' hy' he
  · obtain ⟨x', hx'⟩ := fcells _ _ h1
    exact hr.ct b1 b2 x' k d g o s hx' (ftail _ _ _ h2) ht
  · exact hr.tt b1 b2 k d k' d' g o s o' s' (ftail _ _ _ h1) (ftail _ _ _ h2) ht ht'

/-- A new memory that one holder may append to, at a place of its own or nowhere, in a world that has grown. -/
theorem rel_newTl (hr : Rel G σ H w) {w' : World} (hs : w.heap.size ≤ w'.heap.size) (hb : ∀ g, g < w.heap.size → w'.heap[g]? = w.heap[g]?) (ho : w'.os = w.os) (hu : w'.output = w.output)
    (k0 : Nat) (d0 : Option (List AV)) (r : Option (Nat × Nat × Nat)) (hp : ∀ g o s, r = some (g, o, s) → w.heap.size ≤ g ∧ ∃ c e, w'.heap[g]? = some (.cells c e (0, 0)) ∧ c.size = s)
    (hv : ∀ cs, d0 = some cs → k0 = cs.length ∧ (r = none → cs = []) ∧ ∀ g o s, r = some (g, o, s) → o = 0 ∧ cs.length ≤ s ∧ ∀ (i : Nat) x, cs[i]? = some x → ∃ v, w'.cell? ⟨g, i, none⟩ = some v ∧ RelC σ H w x v) :
    Rel G (σ.withT H.n r) (H.new (.tl k0 d0)) w' ∧ Ev H.n σ H w (σ.withT H.n r) (H.new (.tl k0 d0)) w' := by
  have hold : ∀ b, b < H.n → (σ.withT H.n r).t b = σ.t b := fun b hb => by simp [Gh.withT, Nat.ne_of_lt hb]
  have hnew : (σ.withT H.n r).t H.n = r := by simp [Gh.withT]
  have fcells : ∀ b x, (H.new (.tl k0 d0)).f b = some (.cells x) → H.f b = some (.cells x) := by
    intro b x h
    rw [Hp.f_new] at h
    split at h
    · cases h
    · exact h
  have fobj : ∀ b vs S, (H.new (.tl k0 d0)).f b = some (.obj vs S) → H.f b = some (.obj vs S) := by
    intro b vs S h
    rw [Hp.f_new] at h
    split at h
    · cases h
    · exact h
  have hobj : ∀ (g : Nat) (o : Obj), w.heap[g]? = some o → isObj o = true → w'.heap[g]? = some o := fun g o h _ => (hb g (heap_lt h)).trans h
  have ftail : ∀ b k d, (H.new (.tl k0 d0)).f b = some (.tl k d) → (b = H.n ∧ k = k0 ∧ d = d0) ∨ H.f b = some (.tl k d) := by
    intro b x d h
    rw [Hp.f_new] at h
    split at h
    · rename_i hh; cases h; exact .inl ⟨hh, rfl, rfl⟩
    · exact .inr h
  have hev : Ev H.n σ H w (σ.withT H.n r) (H.new (.tl k0 d0)) w' := by
    refine ⟨fun g o v h1 h2 => ?_, fun _ _ => rfl, by simp [Hp.n_new], fun b hb k d hk => ?_, hs, fun g hg hf => ⟨hb g hg, fun b x h => hf.1 b x (fcells _ _ h), fun b k d o s h => ?_, fun b vs S h => hf.3 b vs S (fobj _ _ _ h)⟩, ho, hu⟩
    · have hlt : g < w.heap.size := World.block_lt_of_cell? (a := ⟨g, o, none⟩) w h2
      refine ⟨⟨fun b x h => h1.1 b x (fcells _ _ h), fun b k d o' s h ht => ?_⟩, by simpa [World.cell?, hb g hlt] using h2⟩
      rcases ftail b k d h with ⟨rfl, rfl, rfl⟩ | h
      · rw [hnew] at ht; have := (hp g o' s ht).1; omega
      · rw [hold b (Hp.lt h)] at ht; exact h1.2 b k d o' s h ht
    · rcases ftail b k d hk with ⟨rfl, _⟩ | h
      · omega
      · exact ⟨k, d, h, Nat.le_refl _, fun _ => hold b hb⟩
    · rcases ftail b k d h with ⟨rfl, rfl, rfl⟩ | h
      · rw [hnew]; intro ht; have := (hp g o s ht).1; omega
      · rw [hold b (Hp.lt h)]; exact hf.2 b k d o s h
  refine ⟨⟨fun b x h => ?_, fun b k d g o s h ht => ?_, fun b k cs h => ?_, fun b1 b2 x y h1 h2 => hr.cc b1 b2 x y (fcells _ _ h1) (fcells _ _ h2), fun b1 b2 x k d g o s h1 h2 ht => ?_, fun b1 b2 k d k' d' g o s o' s' h1 h2 ht ht' => ?_, hr.glob_mono hev, (hr.objs_keep hev fobj hobj).1, (hr.objs_keep hev fobj hobj).2⟩, hev⟩
  · obtain ⟨c, e, q1, q2, q3⟩ := hr.cells b x (fcells _ _ h)
    exact ⟨c, e, (hb _ (hr.c_lt (fcells _ _ h))).trans q1, q2, fun i y hy => let ⟨v, a, b⟩ := q3 i y hy; ⟨v, a, b.mono hev⟩⟩
  · rcases ftail b k d h with ⟨rfl, rfl, rfl⟩ | h
    · rw [hnew] at ht; exact (hp g o s ht).2
    · rw [hold b (Hp.lt h)] at ht
      obtain ⟨c, e, q1, q2⟩ := hr.tail b k d g o s h ht
      exact ⟨c, e, (hb _ (hr.t_lt h ht)).trans q1, q2⟩
  · rcases ftail b k _ h with ⟨rfl, rfl, hd⟩ | h
    · rw [hnew]
      obtain ⟨q0, q1, q2⟩ := hv cs hd.symm
      refine ⟨q0, q1, fun g o s hg => ?_⟩
      obtain ⟨p0, p1, p2⟩ := q2 g o s hg
      exact ⟨p0, p1, fun i x hx => let ⟨v, a, b⟩ := p2 i x hx; ⟨v, a, b.mono hev⟩⟩
    · rw [hold b (Hp.lt h)]
      obtain ⟨q0, q1, q2⟩ := hr.vec b k cs h
      refine ⟨q0, q1, fun g o s hg => ?_⟩
      obtain ⟨p0, p1, p2⟩ := q2 g o s hg
      refine ⟨p0, p1, fun i x hx => ?_⟩
      obtain ⟨v, a, b⟩ := p2 i x hx
      exact ⟨v, by simpa [World.cell?, hb g (hr.t_lt h hg)] using a, b.mono hev⟩
  · have h1' := fcells _ _ h1
    rcases ftail b2 k d h2 with ⟨rfl, rfl, rfl⟩ | h
    · rw [hnew] at ht; have := (hp g o s ht).1; have := hr.c_lt h1'; show σ.c b1 ≠ g; omega
    · rw [hold b2 (Hp.lt h)] at ht; exact hr.ct b1 b2 x k d g o s h1' h ht
  · rcases ftail b1 k d h1 with ⟨rfl, rfl, rfl⟩ | q1 <;> rcases ftail b2 k' d' h2 with ⟨rfl, rfl, rfl⟩ | q2
    · rfl
    · rw [hnew] at ht; rw [hold b2 (Hp.lt q2)] at ht'
      have := (hp _ _ _ ht).1; have := hr.t_lt q2 ht'; omega
    · rw [hnew] at ht'; rw [hold b1 (Hp.lt q1)] at ht
      have := (hp _ _ _ ht').1; have := hr.t_lt q1 ht; omega
    · rw [hold b1 (Hp.lt q1)] at ht; rw [hold b2 (Hp.lt q2)] at ht'
      exact hr.tt b1 b2 k d k' d' g o s o' s' q1 q2 ht ht'

theorem rel_newTail (hr : Rel G σ H w) {w' : World} (hs : w.heap.size ≤ w'.heap.size) (hb : ∀ g, g < w.heap.size → w'.heap[g]? = w.heap[g]?) (ho : w'.os = w.os) (hu : w'.output = w.output)
    (r : Option (Nat × Nat × Nat)) (hp : ∀ g o s, r = some (g, o, s) → w.heap.size ≤ g ∧ ∃ c e, w'.heap[g]? = some (.cells c e (0, 0)) ∧ c.size = s) :
    Rel G (σ.withT H.n r) (H.new (.tail 0)) w' ∧ Ev H.n σ H w (σ.withT H.n r) (H.new (.tail 0)) w' :=
  rel_newTl hr hs hb ho hu 0 none r hp (fun cs h => by cases h)

/-- Such a memory takes a version, at the same place further on (the cells between are written), at a new place, or nowhere. -/
theorem rel_setTl (hr : Rel G σ H w) {α k : Nat} {d : Option (List AV)} (hα : H.f α = some (.tl k d)) {w' : World} (hs : w.heap.size ≤ w'.heap.size)
    (hb : ∀ g, g < w.heap.size → (∀ o s, σ.t α ≠ some (g, o, s)) → w'.heap[g]? = w.heap[g]?)
    (hin : ∀ g o s, σ.t α = some (g, o, s) → ∀ i v, i < o → w.cell? ⟨g, i, none⟩ = some v → w'.cell? ⟨g, i, none⟩ = some v)
    (ho : w'.os = w.os) (hu : w'.output = w.output) (k1 : Nat) (d1 : Option (List AV))
    (r : Option (Nat × Nat × Nat)) (hk : k ≤ k1 ∧ (k = k1 → r = σ.t α)) (hp : ∀ g o s, r = some (g, o, s) → (w.heap.size ≤ g ∨ ∃ o0, σ.t α = some (g, o0, s) ∧ o0 ≤ o) ∧ ∃ c e, w'.heap[g]? = some (.cells c e (0, 0)) ∧ c.size = s)
    (hv : ∀ cs, d1 = some cs → k1 = cs.length ∧ (r = none → cs = []) ∧ ∀ g o s, r = some (g, o, s) → o = 0 ∧ cs.length ≤ s ∧ ∀ (i : Nat) x, cs[i]? = some x → ∃ v, w'.cell? ⟨g, i, none⟩ = some v ∧ RelC σ H w x v) :
    Rel G (σ.withT α r) (H.set α (.tl k1 d1)) w' ∧ Ev H.n σ H w (σ.withT α r) (H.set α (.tl k1 d1)) w' := by
  have hαn := Hp.lt hα
  have hold : ∀ b, b ≠ α → (σ.withT α r).t b = σ.t b := fun b hb => by simp [Gh.withT, hb]
  have hnew : (σ.withT α r).t α = r := by simp [Gh.withT]
  have fcells : ∀ b x, (H.set α (.tl k1 d1)).f b = some (.cells x) → H.f b = some (.cells x) := by
    intro b x h
    rw [Hp.f_set] at h
    split at h
    · cases h
    · exact h
  have fobj : ∀ b vs S, (H.set α (.tl k1 d1)).f b = some (.obj vs S) → H.f b = some (.obj vs S) := by
    intro b vs S h
    rw [Hp.f_set] at h
    split at h
    · cases h
    · exact h
  have hobj : ∀ (g : Nat) (o : Obj), w.heap[g]? = some o → isObj o = true → w'.heap[g]? = some o := fun g o h h' =>
    (hb g (heap_lt h) fun o' s hh => by
      obtain ⟨c, e, q, _⟩ := hr.tail α k d g o' s hα hh
      rw [q] at h; cases h; cases h').trans h
  have ftail : ∀ b j c, (H.set α (.tl k1 d1)).f b = some (.tl j c) → (b = α ∧ j = k1 ∧ c = d1) ∨ (b ≠ α ∧ H.f b = some (.tl j c)) := by
    intro b x c h
    rw [Hp.f_set] at h
    by_cases hb : b = α
    · rw [if_pos ⟨hb, hαn⟩] at h; cases h; exact .inl ⟨hb, rfl, rfl⟩
    · rw [if_neg (fun h => hb h.1)] at h; exact .inr ⟨hb, h⟩
  have hev : Ev H.n σ H w (σ.withT α r) (H.set α (.tl k1 d1)) w' := by
    refine ⟨fun g o v h1 h2 => ?_, fun _ _ => rfl, Nat.le_refl _, fun b hbn j c hj => ?_, hs, fun g hg hf => ⟨hb g hg (fun o s => hf.2 α k d o s hα), fun b x h => hf.1 b x (fcells _ _ h), fun b j c o s h => ?_, fun b vs S h => hf.3 b vs S (fobj _ _ _ h)⟩, ho, hu⟩
    · have hlt : g < w.heap.size := World.block_lt_of_cell? (a := ⟨g, o, none⟩) w h2
      refine ⟨⟨fun b x h => h1.1 b x (fcells _ _ h), fun b j c o' s h ht => ?_⟩, ?_⟩
      · rcases ftail b j c h with ⟨rfl, rfl, rfl⟩ | ⟨hne, h⟩
        · rw [hnew] at ht
          rcases (hp g o' s ht).1 with h' | ⟨o0, h0, hle⟩
          · omega
          · exact Nat.lt_of_lt_of_le (h1.2 b k d o0 s hα h0) hle
        · rw [hold b hne] at ht; exact h1.2 b j c o' s h ht
      · cases hσ : σ.t α with
        | none => simpa [World.cell?, hb g hlt (by simp [hσ])] using h2
        | some q =>
          obtain ⟨g0, o0, s0⟩ := q
          by_cases hg : g0 = g
          · subst hg; exact hin g0 o0 s0 hσ o v (h1.2 α k d o0 s0 hα hσ) h2
          · simpa [World.cell?, hb g hlt (by simp [hσ, hg])] using h2
    · rcases ftail b j c hj with ⟨rfl, rfl, rfl⟩ | ⟨hne, h⟩
      · exact ⟨k, d, hα, hk.1, fun h => by rw [hnew]; exact hk.2 h⟩
      · exact ⟨j, c, h, Nat.le_refl _, fun _ => hold b hne⟩
    · rcases ftail b j c h with ⟨rfl, rfl, rfl⟩ | ⟨hne, h⟩
      · rw [hnew]; intro ht
        rcases (hp g o s ht).1 with h' | ⟨o0, h0, _⟩
        · omega
        · exact hf.2 b k d o0 s hα h0
      · rw [hold b hne]; exact hf.2 b j c o s h
  refine ⟨⟨fun b x h => ?_, fun b j c g o s h ht => ?_, fun b j cs h => ?_, fun b1 b2 x y h1 h2 => hr.cc b1 b2 x y (fcells _ _ h1) (fcells _ _ h2), fun b1 b2 x j c g o s h1 h2 ht => ?_, fun b1 b2 j c j' c' g o s o' s' h1 h2 ht ht' => ?_, hr.glob_mono hev, (hr.objs_keep hev fobj hobj).1, (hr.objs_keep hev fobj hobj).2⟩, hev⟩
  · have h' := fcells _ _ h
    obtain ⟨c, e, q1, q2, q3⟩ := hr.cells b x h'
    exact ⟨c, e, (hb _ (hr.c_lt h') (fun o s hh => hr.ct b α x k d _ o s h' hα hh rfl)).trans q1, q2, fun i y hy => let ⟨v, a, b⟩ := q3 i y hy; ⟨v, a, b.mono hev⟩⟩
  · rcases ftail b j c h with ⟨rfl, rfl, rfl⟩ | ⟨hne, h⟩
    · rw [hnew] at ht; exact (hp g o s ht).2
    · rw [hold b hne] at ht
      obtain ⟨c', e, q1, q2⟩ := hr.tail b j c g o s h ht
      exact ⟨c', e, (hb _ (hr.t_lt h ht) (fun o' s' hh => hne (hr.tt b α j c k d g o s o' s' h hα ht hh))).trans q1, q2⟩
  · rcases ftail b j _ h with ⟨rfl, rfl, hd⟩ | ⟨hne, h⟩
    · rw [hnew]
      obtain ⟨q0, q1, q2⟩ := hv cs hd.symm
      refine ⟨q0, q1, fun g o s hg => ?_⟩
      obtain ⟨p0, p1, p2⟩ := q2 g o s hg
      exact ⟨p0, p1, fun i x hx => let ⟨v, a, b⟩ := p2 i x hx; ⟨v, a, b.mono hev⟩⟩
    · rw [hold b hne]
      obtain ⟨q0, q1, q2⟩ := hr.vec b j cs h
      refine ⟨q0, q1, fun g o s hg => ?_⟩
      obtain ⟨p0, p1, p2⟩ := q2 g o s hg
      refine ⟨p0, p1, fun i x hx => ?_⟩
      obtain ⟨v, a, b'⟩ := p2 i x hx
      exact ⟨v, by simpa [World.cell?, hb g (hr.t_lt h hg) (fun o' s' hh => hne (hr.tt b α j _ k d g o s o' s' h hα hg hh))] using a, b'.mono hev⟩
  · have h1' := fcells _ _ h1
    rcases ftail b2 j c h2 with ⟨rfl, rfl, rfl⟩ | ⟨hne, h⟩
    · rw [hnew] at ht
      rcases (hp g o s ht).1 with h' | ⟨o0, h0, _⟩
      · have := hr.c_lt h1'; show σ.c b1 ≠ g; omega
      · exact hr.ct b1 b2 x k d g o0 s h1' hα h0
    · rw [hold b2 hne] at ht; exact hr.ct b1 b2 x j c g o s h1' h ht
  · rcases ftail b1 j c h1 with ⟨rfl, rfl, rfl⟩ | ⟨hne1, q1⟩
    · rcases ftail b2 j' c' h2 with ⟨rfl, rfl, rfl⟩ | ⟨hne2, q2⟩
      · rfl
      · rw [hnew] at ht; rw [hold b2 hne2] at ht'
        rcases (hp _ _ _ ht).1 with h' | ⟨o0, h0, _⟩
        · have := hr.t_lt q2 ht'; omega
        · exact hr.tt _ _ _ _ _ _ _ _ _ _ _ hα q2 h0 ht'
    · rcases ftail b2 j' c' h2 with ⟨rfl, rfl, rfl⟩ | ⟨hne2, q2⟩
      · rw [hnew] at ht'; rw [hold b1 hne1] at ht
        rcases (hp _ _ _ ht').1 with h' | ⟨o0, h0, _⟩
        · have := hr.t_lt q1 ht; omega
        · exact hr.tt _ _ _ _ _ _ _ _ _ _ _ q1 hα ht h0
      · rw [hold b1 hne1] at ht; rw [hold b2 hne2] at ht'
        exact hr.tt b1 b2 j c j' c' g o s o' s' q1 q2 ht ht'

theorem rel_setTail (hr : Rel G σ H w) {α k : Nat} (hα : H.f α = some (.tail k)) {w' : World} (hs : w.heap.size ≤ w'.heap.size)
    (hb : ∀ g, g < w.heap.size → (∀ o s, σ.t α ≠ some (g, o, s)) → w'.heap[g]? = w.heap[g]?)
    (hin : ∀ g o s, σ.t α = some (g, o, s) → ∀ i v, i < o → w.cell? ⟨g, i, none⟩ = some v → w'.cell? ⟨g, i, none⟩ = some v)
    (ho : w'.os = w.os) (hu : w'.output = w.output)
    (r : Option (Nat × Nat × Nat)) (hp : ∀ g o s, r = some (g, o, s) → (w.heap.size ≤ g ∨ ∃ o0, σ.t α = some (g, o0, s) ∧ o0 ≤ o) ∧ ∃ c e, w'.heap[g]? = some (.cells c e (0, 0)) ∧ c.size = s) :
    Rel G (σ.withT α r) (H.set α (.tail (k + 1))) w' ∧ Ev H.n σ H w (σ.withT α r) (H.set α (.tail (k + 1))) w' :=
  rel_setTl hr hα hs hb hin ho hu (k + 1) none r ⟨by omega, fun h => by omega⟩ hp (fun cs h => by cases h)
end states

end Go.AL
