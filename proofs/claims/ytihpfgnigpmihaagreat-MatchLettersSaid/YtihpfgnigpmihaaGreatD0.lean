/- The matcher's results as lists: a plain model, with fuel. -/
set_option linter.unusedVariables false
set_option linter.unusedSimpArgs false
namespace Go.Proofs.YtihpfgnigpmihaaGreat

abbrev Spans := Fin 20 → Int
structure St where
  node : Nat
  done : Nat
  pos : Nat
  g : Spans
structure Res where
  stop : Nat
  g : Spans
instance : DecidableEq Spans := fun v w => decidable_of_iff (∀ i, v i = w i) ⟨fun h => funext h, fun h i => by rw [h]⟩
instance : DecidableEq St := fun s t => decidable_of_iff (s.node = t.node ∧ s.done = t.done ∧ s.pos = t.pos ∧ s.g = t.g)
  ⟨fun ⟨h1, h2, h3, h4⟩ => by obtain ⟨a, b, c, d⟩ := s; obtain ⟨a', b', c', d'⟩ := t; simp only at h1 h2 h3 h4; subst h1 h2 h3 h4; rfl, fun h => by subst h; exact ⟨rfl, rfl, rfl, rfl⟩⟩
instance : DecidableEq Res := fun s t => decidable_of_iff (s.stop = t.stop ∧ s.g = t.g)
  ⟨fun ⟨h1, h2⟩ => by obtain ⟨a, b⟩ := s; obtain ⟨a', b'⟩ := t; simp only at h1 h2; subst h1 h2; rfl, fun h => by subst h; exact ⟨rfl, rfl⟩⟩

/-- A node: its kind, its cell, from how many times to how many (below 0: any number), and its kids. -/
structure Pn where
  kind : Nat
  cell : Int
  lo : Nat
  hi : Int
  kids : List Nat

/-- No number here is greater. -/
def far : Nat := 268435456

/-- A list with each entry once, behind what is there. -/
def once (out : List Res) : List Res → List Res
  | [] => out
  | x :: l => if x ∈ out then once out l else once (out ++ [x]) l
/-- Stops do not rise. -/
def Falls : List Res → Prop
  | [] => True
  | x :: l => (∀ y ∈ l, y.stop ≤ x.stop) ∧ Falls l
instance fallsDec : (l : List Res) → Decidable (Falls l)
  | [] => isTrue trivial
  | x :: l => @instDecidableAnd _ _ (inferInstance) (fallsDec l)
/-- No list here is longer. -/
def most : Nat := 100000
/-- Lists that need no sorting. -/
def Fine (l : List Res) : Prop := Falls l ∧ (∀ x ∈ l, x.stop < far) ∧ l.length ≤ most
instance (l : List Res) : Decidable (Fine l) := @instDecidableAnd _ _ (inferInstance) (@instDecidableAnd _ _ inferInstance inferInstance)
def orderedD (l : List Res) : Option (List Res) := if l.length < far ∧ Fine (once [] l) then some (once [] l) else none

def bindO {α β : Type} : Option α → (α → Option β) → Option β
  | some x, f => f x
  | none, _ => none
theorem bindO_some {α β : Type} {x : Option α} {f : α → Option β} {z : β} : bindO x f = some z → ∃ y, x = some y ∧ f y = some z := by
  intro h; cases x with
  | none => cases h
  | some y => exact ⟨y, rfl, h⟩
/-- The lists behind each other. -/
def joinO (f : Res → Option (List Res)) : List Res → Option (List Res)
  | [] => some []
  | x :: l => bindO (f x) fun a => bindO (joinO f l) fun b => some (a ++ b)

def tellD (f : St → Option (List Res)) : List Nat → Res → Option (List Res)
  | [], x => some [x]
  | k :: ks, x => bindO (f ⟨k, 0, x.stop, x.g⟩) fun ys => bindO (joinO (tellD f ks) ys) orderedD
def nextDone (nd : Pn) (d : Nat) : Nat := if nd.hi < 0 then min (d + 1) nd.lo else d + 1
def timesD (f : St → Option (List Res)) (nd : Pn) (s : St) : Option (List Res) :=
  bindO (if nd.hi < 0 ∨ (s.done : Int) < nd.hi then
      match nd.kids with
      | [] => none
      | k :: _ => bindO (f ⟨k, 0, s.pos, s.g⟩) fun ys => joinO (fun x => if x.stop ≤ s.pos ∧ nd.lo ≤ s.done then some [] else f ⟨s.node, nextDone nd s.done, x.stop, x.g⟩) ys
    else some []) fun out => some (if nd.lo ≤ s.done then out ++ [⟨s.pos, s.g⟩] else out)
def askD (f : St → Option (List Res)) (ns : List Pn) (row : List Int) (s : St) : Option (List Res) :=
  match ns[s.node]? with
  | none => none
  | some nd =>
    if nd.kind = 1 then some (if row[s.pos]? = some nd.cell then [⟨s.pos + 1, s.g⟩] else [])
    else if nd.kind = 4 then some (if s.pos = 0 then [⟨s.pos, s.g⟩] else [])
    else if nd.kind = 5 then some (if s.pos = row.length then [⟨s.pos, s.g⟩] else [])
    else if nd.kind = 11 then some [⟨s.pos, s.g⟩]
    else if nd.kind = 8 then tellD f nd.kids ⟨s.pos, s.g⟩
    else if nd.kind = 10 then timesD f nd s
    else none
def den (ns : List Pn) (row : List Int) : Nat → St → Option (List Res)
  | 0, _ => none
  | n + 1, s => if s.done < far ∧ s.pos < far then bindO (askD (den ns row n) ns row s) orderedD else none

/-! ### More fuel gives the same -/
def Sub (f h : St → Option (List Res)) : Prop := ∀ s rs, f s = some rs → h s = some rs
theorem joinO_mono {f h : Res → Option (List Res)} : ∀ (l : List Res), (∀ x ∈ l, ∀ rs, f x = some rs → h x = some rs) → ∀ rs, joinO f l = some rs → joinO h l = some rs
  | [], _, rs, e => e
  | x :: l, hs, rs, e => by
    obtain ⟨a, ha, e⟩ := bindO_some e
    obtain ⟨b, hb, e⟩ := bindO_some e
    rw [joinO, hs x (List.mem_cons_self ..) a ha, bindO, joinO_mono l (fun y hy => hs y (List.mem_cons_of_mem _ hy)) b hb]
    exact e
theorem tellD_mono {f h : St → Option (List Res)} (hs : Sub f h) : ∀ (ks : List Nat) (x : Res) (rs : List Res), tellD f ks x = some rs → tellD h ks x = some rs
  | [], x, rs, e => e
  | k :: ks, x, rs, e => by
    obtain ⟨ys, hy, e⟩ := bindO_some e
    obtain ⟨ls, hl, e⟩ := bindO_some e
    rw [tellD, hs _ _ hy, bindO, joinO_mono ys (fun y _ => tellD_mono hs ks y) ls hl]
    exact e
theorem timesD_mono {f h : St → Option (List Res)} (hs : Sub f h) (nd : Pn) (s : St) (rs : List Res) (e : timesD f nd s = some rs) : timesD h nd s = some rs := by
  unfold timesD at e ⊢
  obtain ⟨out, ho, e⟩ := bindO_some e
  have : (if nd.hi < 0 ∨ (s.done : Int) < nd.hi then
      match nd.kids with
      | [] => none
      | k :: _ => bindO (h ⟨k, 0, s.pos, s.g⟩) fun ys => joinO (fun x => if x.stop ≤ s.pos ∧ nd.lo ≤ s.done then some [] else h ⟨s.node, nextDone nd s.done, x.stop, x.g⟩) ys
    else some []) = some out := by
    split at ho
    · rename_i hc
      rw [if_pos hc]
      split at ho
      · cases ho
      · obtain ⟨ys, hy, ho⟩ := bindO_some ho
        rw [hs _ _ hy, bindO]
        refine joinO_mono ys (fun x _ rs hx => ?_) _ ho
        split at hx
        · rename_i hq; rw [if_pos hq]; exact hx
        · rename_i hq; rw [if_neg hq]; exact hs _ _ hx
    · rename_i hc; rw [if_neg hc]; exact ho
  rw [this]
  exact e
theorem askD_mono {f h : St → Option (List Res)} (hs : Sub f h) (ns : List Pn) (row : List Int) (s : St) (rs : List Res) (e : askD f ns row s = some rs) : askD h ns row s = some rs := by
  unfold askD at e ⊢
  split at e
  · cases e
  · rename_i nd hn
    split at e; · rename_i hk; rw [if_pos hk]; exact e
    rename_i h1; rw [if_neg h1]
    split at e; · rename_i hk; rw [if_pos hk]; exact e
    rename_i h1; rw [if_neg h1]
    split at e; · rename_i hk; rw [if_pos hk]; exact e
    rename_i h1; rw [if_neg h1]
    split at e; · rename_i hk; rw [if_pos hk]; exact e
    rename_i h1; rw [if_neg h1]
    split at e; · rename_i hk; rw [if_pos hk]; exact tellD_mono hs _ _ _ e
    rename_i h1; rw [if_neg h1]
    split at e; · rename_i hk; rw [if_pos hk]; exact timesD_mono hs _ _ _ e
    cases e
theorem den_step (ns : List Pn) (row : List Int) : ∀ n, Sub (den ns row n) (den ns row (n + 1))
  | 0 => fun s rs e => by cases e
  | n + 1 => fun s rs e => by
    rw [den] at e ⊢
    split at e
    · rename_i hc
      rw [if_pos hc]
      obtain ⟨l, hl, e⟩ := bindO_some e
      rw [askD_mono (den_step ns row n) ns row s l hl]
      exact e
    · cases e
theorem den_mono (ns : List Pn) (row : List Int) {n m : Nat} (h : n ≤ m) : Sub (den ns row n) (den ns row m) := by
  obtain ⟨d, rfl⟩ := Nat.exists_eq_add_of_le h
  clear h
  induction d with
  | zero => exact fun _ _ e => e
  | succ d ih => exact fun s rs e => den_step ns row _ s rs (ih s rs e)
theorem den_det (ns : List Pn) (row : List Int) {n m : Nat} {s : St} {a b : List Res} (h : den ns row n s = some a) (k : den ns row m s = some b) : a = b := by
  have h1 := den_mono ns row (Nat.le_max_left n m) _ _ h
  have h2 := den_mono ns row (Nat.le_max_right n m) _ _ k
  rw [h1] at h2; cases h2; rfl
theorem den_fine (ns : List Pn) (row : List Int) {n : Nat} {s : St} {rs : List Res} (h : den ns row n s = some rs) : Fine rs := by
  cases n with
  | zero => cases h
  | succ n =>
    rw [den] at h
    split at h
    · obtain ⟨l, _, h⟩ := bindO_some h
      unfold orderedD at h
      split at h
      · rename_i hf; cases h; exact hf.2
      · cases h
    · cases h
end Go.Proofs.YtihpfgnigpmihaaGreat
