/- For regions that draw their order: on what an operation hangs. -/
import Derived.Test.YtcedojbifnangaaAbDraw1
namespace Go.Ab

section
variable {P : Program}

theorem evAll_congr {fr fr' : List V} : ∀ {l : List Operand}, (∀ o ∈ l, ev fr o = ev fr' o) → evAll fr l = evAll fr' l
  | [], _ => rfl
  | o :: l, h => by
    simp only [evAll, h o List.mem_cons_self, evAll_congr fun x hx => h x (List.mem_cons_of_mem _ hx)]

theorem evParts_congr {fr fr' : List V} : ∀ {l : List (Nat × Operand)}, (∀ o ∈ l, ev fr o.2 = ev fr' o.2) → evParts fr l = evParts fr' l
  | [], _ => rfl
  | (i, o) :: l, h => by
    simp only [evParts, h (i, o) List.mem_cons_self, evParts_congr fun x hx => h x (List.mem_cons_of_mem _ hx)]

theorem partsInOrder_congr {fr fr' : List V} : ∀ {l : List (Nat × Operand)} {i : Nat}, (∀ o ∈ l, ev fr o.2 = ev fr' o.2) → partsInOrder fr i l = partsInOrder fr' i l
  | [], _, _ => rfl
  | (i, o) :: l, j, h => by
    simp only [partsInOrder, h (i, o) List.mem_cons_self, partsInOrder_congr fun x hx => h x (List.mem_cons_of_mem _ hx)]

theorem opEv_congr {md : FuncId → Nat} {call : Callf} {cfg : Cfg} {fr fr' : List V} {h : Heap} {op : Op} (hc : ∀ o ∈ op.operands.toList, ev fr o = ev fr' o) : opEv P md call cfg fr h op = opEv P md call cfg fr' h op := by
  cases op
  case call c =>
    obtain ⟨callee, args, tys⟩ := c
    have hargs : evAll fr args.toList = evAll fr' args.toList := evAll_congr fun o ho => hc o (by simp [Op.operands, Call.operands] at ho ⊢; exact .inr ho)
    cases callee with
    | value f =>
      have hf : ev fr f = ev fr' f := hc f (by simp [Op.operands, Call.operands])
      simp only [opEv, hf, hargs]
    | invoke r n => simp only [opEv, opV]
    | builtin b => simp only [opEv, opV, hargs]
  case build t ps =>
    have hp : evParts fr ps.toList = evParts fr' ps.toList := evParts_congr fun o ho => hc o.2 (by simp [Op.operands] at ho ⊢; exact ⟨o.1, ho⟩)
    simp only [opEv, opV, hp]
  case buildSlice t n ps =>
    have hp : partsInOrder fr 0 ps.toList = partsInOrder fr' 0 ps.toList := partsInOrder_congr fun o ho => hc o.2 (by simp [Op.operands] at ho ⊢; exact ⟨o.1, ho⟩)
    simp only [opEv, opV, hp]
  case makeFunc fn f c =>
    have h1 : evAll fr f.toList = evAll fr' f.toList := evAll_congr fun o ho => hc o (by simp [Op.operands] at ho ⊢; exact .inl ho)
    have h2 : evAll fr c.toList = evAll fr' c.toList := evAll_congr fun o ho => hc o (by simp [Op.operands] at ho ⊢; exact .inr ho)
    simp only [opEv, opV, h1, h2]
  case slice t x l hh mx =>
    have h1 : ev fr x = ev fr' x := hc x (by simp [Op.operands])
    have h2 : l.map (ev fr) = l.map (ev fr') := by
      cases l with
      | none => rfl
      | some o => simp [hc o (by simp [Op.operands])]
    have h3 : hh.map (ev fr) = hh.map (ev fr') := by
      cases hh with
      | none => rfl
      | some o => simp [hc o (by simp [Op.operands])]
    cases mx with
    | none => simp only [opEv, opV, h1, h2, h3]
    | some o => simp only [opEv, opV]
  case makeMap t r =>
    cases r with
    | none => simp only [opEv, opV]
    | some o => simp only [opEv, opV]
  all_goals
    simp only [Op.operands, List.mem_cons, List.not_mem_nil, or_false, forall_eq_or_imp, forall_eq] at hc
    try simp only [opEv, opV, hc]

/-- An operation (no call of a Go function) that may stand unordered beside others. -/
def headOp (P : Program) : Op → Bool
  | .move _ | .assign _ | .pick .. | .build .. | .nilCheck _ | .binOp .. | .unOp .. | .makeFunc .. | .fieldAddr .. | .field .. | .indexAddr .. | .index .. | .extract .. => true
  | .load .. | .slice .. | .alloc _ | .box .. | .buildSlice .. | .makeSlice .. => true
  | .call { callee := .builtin b, .. } => match b with
    | .len | .min | .max => true
    | _ => false
  | .convert _ d _ => match P.underlying d with
    | some (.int _) => true
    | _ => false
  | _ => false

/-- The block that it looks into. -/
def readsOf (fr : List V) : Op → Option Nat
  | .load _ a => match ev fr a with
    | some (.ptr b _) => some b
    | _ => none
  | .slice _ x _ _ _ => match ev fr x with
    | some (.ptr b _) => some b
    | _ => none
  | _ => none

theorem blockOf_set {h : Heap} {x y : Nat} {o : Option (List V)} (hne : y ≠ x) : blockOf (h.set x o) y = blockOf h y := by
  simp [blockOf, List.getElem?_set_ne (fun e => hne e.symm)]

theorem loadV_set {h : Heap} {x : Nat} {o : Option (List V)} {t : TypeId} {p : V} (hne : ∀ b off, p = .ptr b off → b ≠ x) : loadV P (h.set x o) t p = loadV P h t p := by
  cases p <;> simp only [loadV]
  rename_i b off
  rw [blockOf_set (hne b off rfl)]

theorem sliceV_set {h : Heap} {x : Nat} {o : Option (List V)} {t : TypeId} {p : V} {lo hi : Option (Option V)} (hne : ∀ b off, p = .ptr b off → b ≠ x) : sliceV P (h.set x o) t p lo hi = sliceV P h t p lo hi := by
  unfold sliceV
  split <;> try rfl
  rename_i n elem b off hu
  rw [blockOf_set (hne b off rfl)]

theorem set_push {h : Heap} {x : Nat} {o n : Option (List V)} (hx : x < h.length) : (h ++ [n]).set x o = h.set x o ++ [n] := by
  rw [List.set_append_left _ _ hx]

theorem opV_set {cfg : Cfg} {fr : List V} {h h' : Heap} {op : Op} {v : V} {x : Nat} (o : Option (List V)) (hop : headOp P op = true) (hr : readsOf fr op ≠ some x) (hx : x < h.length) (hv : opV P cfg fr h op = some (v, h')) :
    opV P cfg fr (h.set x o) op = some (v, h'.set x o) := by
  have key : ∀ {e : Option V}, e.map (·, h) = some (v, h') → e.map (·, h.set x o) = some (v, h'.set x o) := by
    intro e he
    obtain ⟨h1, rfl⟩ := map_pair he
    simp [h1]
  cases op <;> simp only [headOp, Bool.false_eq_true] at hop
  case move y => exact key hv
  case assign y => exact key hv
  case pick c a b =>
    simp only [opV] at hv ⊢
    split at hv
    · rename_i hc; (try simp only [hc]); exact key hv
    · rename_i hc; (try simp only [hc]); exact key hv
    · cases hv
  case alloc t =>
    simp only [opV] at hv ⊢
    split at hv
    · rename_i z hz; cases hv; simp [hz, set_push hx]
    · cases hv
  case box t y =>
    simp only [opV] at hv ⊢
    split at hv
    · rename_i z hz
      split at hv
      · rename_i cs hcs; cases hv; simp [hz, hcs, set_push hx]
      · cases hv
    · cases hv
  case build t ps =>
    simp only [opV] at hv ⊢
    split at hv
    · rename_i vs hvs; (try simp only [hvs]); exact key hv
    · cases hv
  case buildSlice t n ps =>
    simp only [opV] at hv ⊢
    split at hv
    · rename_i vs hvs
      try simp only [hvs]
      unfold buildSliceV at hv ⊢
      split at hv
      · rename_i e hu
        try simp only [hu]
        split at hv
        · rename_i s hs
          try simp only [hs]
          split at hv
          · rename_i cs hcs
            try simp only [hcs]
            split at hv
            · rename_i hc
              cases hv
              rw [if_pos hc]
              simp [set_push hx]
            · cases hv
          · cases hv
        · cases hv
      · cases hv
    · cases hv
  case load t a =>
    simp only [opV] at hv ⊢
    split at hv
    · rename_i p hp
      try simp only [hp]
      rw [loadV_set (fun b off hpb => by intro e; subst e; subst hpb; exact hr (by simp [readsOf, hp]))]
      exact key hv
    · cases hv
  case nilCheck y =>
    simp only [opV] at hv ⊢
    split at hv
    · rename_i p hp; (try simp only [hp]); exact key hv
    · cases hv
  case binOp b t y z u =>
    simp only [opV] at hv ⊢
    split at hv
    · rename_i p q hp hq; (try simp only [hp, hq]); exact key hv
    · cases hv
  case unOp b t y =>
    simp only [opV] at hv ⊢
    split at hv
    · rename_i p hp; (try simp only [hp]); exact key hv
    · cases hv
  case convert s d y =>
    simp only [opV] at hv ⊢
    split at hv
    · rename_i p hp
      try simp only [hp]
      split at hop
      · rename_i k hd
        unfold convV at hv ⊢
        rw [hd] at hv ⊢
        split at hv
        · rename_i h1 h2; cases h2
        · rename_i k' sd h1 h2
          cases h2
          split at hv
          · cases hv; simp_all
          · cases hv
        · rename_i h1 h2; cases h2
        · rename_i h1 h2; cases h2
        · cases hv
      · cases hop
    · cases hv
  case makeFunc fn f c =>
    simp only [opV] at hv ⊢
    split at hv
    · rename_i p q hp hq; cases hv; simp [hp, hq]
    · cases hv
  case makeSlice t l c =>
    simp only [opV] at hv ⊢
    split at hv
    · rename_i p q hp hq
      try simp only [hp, hq]
      unfold makeSliceV at hv ⊢
      split at hv
      · rename_i e n m hu
        try simp only [hu]
        split at hv
        · rename_i s y z hs hy hz
          try simp only [hs, hy, hz]
          split at hv
          · rename_i hc
            cases hv
            rw [if_pos hc]
            simp [set_push hx]
          · cases hv
        · cases hv
      · cases hv
    · cases hv
  case slice t y l hh mx =>
    cases mx with
    | none =>
      simp only [opV] at hv ⊢
      split at hv
      · rename_i p hp
        try simp only [hp]
        rw [sliceV_set (fun b off hpb => by intro e; subst e; subst hpb; exact hr (by simp [readsOf, hp]))]
        exact key hv
      · cases hv
    | some o => simp [opV] at hv
  case fieldAddr s y f =>
    simp only [opV] at hv ⊢
    split at hv
    · rename_i p hp; (try simp only [hp]); exact key hv
    · cases hv
  case field s y f =>
    simp only [opV] at hv ⊢
    split at hv
    · rename_i p hp; (try simp only [hp]); exact key hv
    · cases hv
  case indexAddr s y f =>
    simp only [opV] at hv ⊢
    split at hv
    · rename_i p q hp hq; (try simp only [hp, hq]); exact key hv
    · cases hv
  case index s y f =>
    simp only [opV] at hv ⊢
    split at hv
    · rename_i p q hp hq; (try simp only [hp, hq]); exact key hv
    · cases hv
  case extract y i =>
    simp only [opV] at hv ⊢
    split at hv
    · rename_i p hp; (try simp only [hp]); exact key hv
    · cases hv
  case call c =>
    obtain ⟨callee, args, tys⟩ := c
    cases callee with
    | value f => simp at hop
    | invoke r n => simp at hop
    | builtin b =>
      simp only [opV] at hv ⊢
      split at hv
      · cases hv
      · rename_i vs hvs
        try simp only [hvs]
        split at hv
        · exact key hv
        · simp at hop
        · exact key hv
        · exact key hv
        · simp at hop
        · cases hv
end
end Go.Ab
