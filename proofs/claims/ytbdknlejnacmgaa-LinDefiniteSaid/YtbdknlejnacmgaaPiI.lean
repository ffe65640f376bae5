/-
  Each operation, on: rows taken in, append, copy, make, literals.
-/
import Derived.Test.YtbdknlejnacmgaaPiH
namespace Go.Proofs.Ytbdknlejnacmgaa.Pi
open Go
set_option linter.unusedVariables false
set_option linter.unusedSimpArgs false
section
variable {P : Program} {base : Nat} {bio : Option Nat} {w0 : World} {M0 : Mem} {bk0 : Option Blk} {nt : Nat} {L : List Nat} {s : St} {M : Mem} {μ : NMap} {β : Nat → Option Nm} {a : Act} {w : World}
variable {o : Oper} {d : Option Nat} {K : Act → World → Prop} {Q : Exit → Act → World → Prop}

theorem snd_storeRow (hs : Sim base bio w0 M0 bk0 nt L s M μ β a w) (hd : o.dst = d) (hdn : ∀ d', d = some d' → d' < nt) {wl : Option Nat} {av : List Nat} {t : TypeId} {x y : Operand} {pa pv : PV} {e : Eff}
    (he : o.op = .store t x y) (hz : sizeT P t = some 1) (hra : Rep M μ pa (a.eval x)) (hrv : Rep M μ pv (a.eval y)) (hev : evStoreRow s av wl pa pv = some e)
    (hK : Goes K base bio w0 M0 bk0 nt L (s.app d e) a d) : o.wp P a w K Q := by
  unfold evStoreRow at hev
  split at hev
  · rename_i nm i m sz len
    obtain ⟨hc, hev⟩ := cond_some hev
    simp only [Bool.and_eq_true, Bool.not_eq_true', beq_iff_eq, beq_eq_false_iff_ne, ne_eq] at hc
    obtain ⟨⟨⟨⟨⟨⟨⟨⟨⟨_, _⟩, hfz⟩, hj⟩, hlm⟩, _⟩, hmj⟩, hmz⟩, hm0⟩, hn0⟩ := hc
    obtain ⟨en, hen, hev⟩ := Option.bind_eq_some_iff.1 hev
    obtain ⟨rn, hrn, hev⟩ := Option.bind_eq_some_iff.1 hev
    split at hev
    · rename_i ob os ro hos hro
      obtain ⟨hc2, hev⟩ := cond_some hev
      simp only [Bool.and_eq_true, beq_iff_eq] at hc2
      obtain ⟨⟨hosl, hrop⟩, hrol⟩ := hc2
      obtain ⟨xx, hxx, hev⟩ := Option.bind_eq_some_iff.1 hev
      obtain ⟨hxl, hev⟩ := cond_some hev
      simp only [beq_iff_eq] at hxl
      cases hev
      obtain ⟨nl, ng, nj⟩ := nm
      obtain ⟨ml, mg, mj⟩ := m
      simp only at hj hmj hlm hm0 hn0 hen hrn hfz hmz
      subst hj
      subst hmj
      have hno : hobj s.h ⟨nl, ng, 0⟩ = some ob := by unfold hobj; simp [hen, hos]
      obtain ⟨k0, hk0, _⟩ := hs.objs _ _ hno
      have hmo : hobj s.h ⟨ml, mg, 0⟩ = some ro := by unfold hobj; simp [hrn, hro]
      obtain ⟨km, hkm, _⟩ := hs.objs _ _ hmo
      have hez : en.fz = false := by unfold isFz at hfz; simp [hen] at hfz; exact hfz.1
      have hne : en.os ≠ [] := by rw [hos]; simp
      have hs1 := hs.adopt hen hne hez hrn hro hmz hlm hn0 hm0 hkm ⟨k0, hk0⟩
      have hlen : en.os.length = i + 1 := by rw [hos]; simp [hosl]
      have hf := hs.kids nl ng en hen hne _ (Nat.le_refl _)
      have hle : NLe μ (upd μ ⟨nl, ng, en.os.length⟩ km) := NLe.upd _ hf
      obtain ⟨el, eg⟩ := efind_lg hen
      have hrow : ∀ yv, Rep M μ (.own ⟨ml, mg, 0⟩ sz 0 len) yv → Rep M (upd μ ⟨nl, ng, en.os.length⟩ km) (.own ⟨nl, ng, i + 1⟩ sz 0 len) yv := by
        intro yv hrv
        cases hrv with
        | own hn hq hl ht hm ha hz0 =>
          rw [hkm] at hn
          cases hn
          rw [← hlen]
          exact .own (upd_same ..) hq hl ht hm ha hz0
      have hrow := hrow _ hrv
      have ho1 : hobj ({ en with os := en.os ++ [ro] } :: { rn with os := [] } :: s.h) ⟨nl, ng, 0⟩ = some ob := by
        rw [hobj_cons, if_pos ⟨el, eg⟩]
        simp [hos]
      have he1 : efind ({ en with os := en.os ++ [ro] } :: { rn with os := [] } :: s.h) nl ng = some { en with os := en.os ++ [ro] } := by
        rw [efind_cons, if_pos ⟨el, eg⟩]
      have hz1 : isFz ({ en with os := en.os ++ [ro] } :: { rn with os := [] } :: s.h) s.z ⟨nl, ng, 0⟩ = false := by
        rw [isFz_cons, if_pos ⟨el, eg⟩]
        unfold isFz at hfz
        simp [hen] at hfz
        simp [hfz]
      obtain ⟨w', hrun, hs2⟩ := store_core (P := P) hs1 hz (hra.mono (MLe.refl _) hle) hrow (by rfl) (by rfl) hz1 ho1 hxx (by omega) he1
      have hs3 := hs2.congr (s' := { s with h := [{ en with os := ({ xs := ob.xs.set i [.own ⟨nl, ng, i + 1⟩ sz 0 len], pure := false } : Obj) :: (os ++ [ro]) }, { rn with os := [] }] ++ s.h }) (by
        refine ⟨fun _ => rfl, fun l g => ?_, fun _ _ => rfl, rfl⟩
        have hset : setAt xx 0 (cellsOf (.own ⟨nl, ng, i + 1⟩ sz 0 len)) = [.own ⟨nl, ng, i + 1⟩ sz 0 len] := by
          cases xx with
          | nil => simp at hxl
          | cons q r => cases r with
            | nil => rfl
            | cons => simp at hxl
        simp only [List.cons_append, List.nil_append]
        rw [hset, efind_cons, efind_cons, efind_cons, efind_cons, efind_cons]
        by_cases e1 : en.l = l ∧ en.g = g
        · simp [e1, hos, cellsOf, pu0]
        · simp [e1])
      have hs4 := hs3.fill d hdn (p := .any) (v := undef) .any
      exact wp_skp (by simp [execOp, he, hrun]) hd (hK _ _ _ _ _ hs4)
    · cases hev
  · cases hev

/-! ### Elements of a slice -/
theorem elems_sound (hs : Sim base bio w0 M0 bk0 nt L s M μ β a w) {av : List Nat} {p : PV} {v : Value} {ys : List (List PV)} {sz : Nat} (h : elems s.h av p = some ys) (hr : Rep M μ p v) (hf : fits sz ys = true) :
    ∃ A c, v = .slice A ys.length c ∧ ∀ (i : Nat) (x : List PV) (j : Nat) (q : PV), ys[i]? = some x → x[j]? = some q → ∃ ad u, A = some ad ∧ w.cell? (ad.add (i * sz + j)) = some u ∧ Rep M μ q u ∧ u.oneCell' = true := by
  have hfl : ∀ (i : Nat) (x : List PV), ys[i]? = some x → x.length = sz := by
    intro i x hi
    have := List.all_eq_true.1 hf x (List.mem_of_getElem? hi)
    simpa using this
  unfold elems at h
  split at h
  · cases h
    cases hr with
    | view sz' c hc hs' hm hh =>
      refine ⟨_, _, rfl, fun i x j q hi hj => ?_⟩
      obtain ⟨ad, h1, h2, h3⟩ := hm i x j q hi hj
      have e1 := hs' i x hi
      have e2 := hfl i x hi
      rw [e1] at e2
      subst e2
      exact ⟨ad, c i j, h1, hs.min.cell h2, (hh i x j q hi hj).mono (MLe.refl _) (NLe.noNm _), h3⟩
  · cases h
    cases hr with
    | nil0 => exact ⟨_, _, rfl, fun i x j q hi => by simp at hi⟩
  · rename_i n zz off len
    obtain ⟨_, h⟩ := cond_some h
    obtain ⟨ob, ho, h⟩ := Option.bind_eq_some_iff.1 h
    obtain ⟨hl, h⟩ := cond_some h
    simp only [decide_eq_true_eq] at hl
    cases h
    cases hr with
    | @own _ _ _ _ _ cap A bk hn hq hlc ht hm ha hz0 =>
      have hlen : ((ob.xs.drop off).take len).length = len := by simp; omega
      refine ⟨A, cap, by rw [hlen], fun i x j q hi hj => ?_⟩
      obtain ⟨k, hk, hcont, _⟩ := hs.objs n ob ho
      rw [hn] at hk
      cases hk
      obtain ⟨_, _, hc⟩ := hcont
      have hil : i < len := by rw [← hlen]; exact (List.getElem?_eq_some_iff.1 hi).1
      have hi2 : ob.xs[off + i]? = some x := by
        rw [List.getElem?_take, if_pos hil, List.getElem?_drop] at hi
        exact hi
      cases hb : bk.b with
      | none =>
        rw [hb] at hc
        rw [hc.1] at hi2
        simp at hi2
      | some b =>
        rw [hb] at hc
        obtain ⟨cc, ty, hh, hcs, hxl, hxx⟩ := hc
        obtain ⟨g1, g2⟩ := hxx _ _ hi2
        obtain ⟨u, hu, hru, hfu⟩ := g2 j q hj
        rcases ha (.inr (by omega)) with ⟨h1, _⟩ | ⟨b', h1, h2⟩
        · rw [hb] at h1; cases h1
        · rw [hb] at h1
          cases h1
          refine ⟨_, u, h2, ?_, hru, hfu⟩
          rw [add_none]
          have e2 := hfl i x hi
          rw [g1] at e2
          simp only [World.cell?, hh, Option.isSome_none, Bool.false_eq_true, if_false]
          rw [← hu, ← e2, Nat.add_mul]
          congr 1
          omega
  · cases h

/-- Cells in a row, one element behind the other. -/
theorem flat_cells {A : Option Addr} {ys : List (List PV)} {sz : Nat} (hf : fits sz ys = true)
    (h : ∀ (i : Nat) (x : List PV) (j : Nat) (q : PV), ys[i]? = some x → x[j]? = some q → ∃ ad u, A = some ad ∧ w.cell? (ad.add (i * sz + j)) = some u ∧ Rep M μ q u ∧ u.oneCell' = true) :
    ∃ news : List Value, news.length = ys.length * sz ∧ (∀ u ∈ news, u.oneCell' = true) ∧ (∀ ad, A = some ad → ∀ (j : Nat) (u : Value), news[j]? = some u → w.cell? (ad.add j) = some u) ∧ (0 < ys.length * sz → ∃ ad, A = some ad) ∧
      ∀ (i : Nat) (x : List PV) (j : Nat) (q : PV), ys[i]? = some x → x[j]? = some q → ∃ u, news[i * sz + j]? = some u ∧ Rep M μ q u ∧ u.oneCell' = true := by
  have hfl : ∀ (i : Nat) (x : List PV), ys[i]? = some x → x.length = sz := by
    intro i x hi
    have := List.all_eq_true.1 hf x (List.mem_of_getElem? hi)
    simpa using this
  rcases Nat.eq_zero_or_pos (ys.length * sz) with h0 | h0
  · refine ⟨[], by simp [h0], by simp, by simp, fun h => by omega, fun i x j q hi hj => ?_⟩
    have h1 : i < ys.length := (List.getElem?_eq_some_iff.1 hi).1
    have h2 : j < sz := by rw [← hfl i x hi]; exact (List.getElem?_eq_some_iff.1 hj).1
    rcases Nat.mul_eq_zero.1 h0 with h | h <;> omega
  · have hlp : 0 < ys.length := Nat.pos_of_ne_zero (fun e => by simp [e] at h0)
    have hsp : 0 < sz := Nat.pos_of_ne_zero (fun e => by simp [e] at h0)
    have cell : ∀ k, k < ys.length * sz → ∃ ad u q x, A = some ad ∧ w.cell? (ad.add k) = some u ∧ ys[k / sz]? = some x ∧ x[k % sz]? = some q ∧ Rep M μ q u ∧ u.oneCell' = true := by
      intro k hk
      have hd : k / sz < ys.length := (Nat.div_lt_iff_lt_mul hsp).2 hk
      have hx : ys[k / sz]? = some ys[k / sz] := List.getElem?_eq_getElem hd
      have hj : k % sz < (ys[k / sz]).length := by rw [hfl _ _ hx]; exact Nat.mod_lt _ hsp
      have hq : (ys[k / sz])[k % sz]? = some (ys[k / sz])[k % sz] := List.getElem?_eq_getElem hj
      obtain ⟨ad, u, h1, h2, h3, h4⟩ := h _ _ _ _ hx hq
      rw [show k / sz * sz + k % sz = k from Nat.div_add_mod' k sz] at h2
      exact ⟨ad, u, _, _, h1, h2, hx, hq, h3, h4⟩
    obtain ⟨ad, u0, _, _, hA, _⟩ := cell 0 h0
    refine ⟨(List.range (ys.length * sz)).map fun k => (w.cell? (ad.add k)).getD undef, by simp, ?_, ?_, fun _ => ⟨ad, hA⟩, ?_⟩
    · intro u hu
      obtain ⟨k, hk, rfl⟩ := List.mem_map.1 hu
      obtain ⟨ad', u', _, _, h1, h2, _, _, _, h6⟩ := cell k (by simpa using hk)
      rw [hA] at h1
      cases h1
      rw [h2]
      exact h6
    · intro ad' hA' j u hu
      rw [hA] at hA'
      cases hA'
      rw [List.getElem?_map, Option.map_eq_some_iff] at hu
      obtain ⟨k, hk, rfl⟩ := hu
      obtain ⟨hlt, he⟩ := List.getElem?_eq_some_iff.1 hk
      simp at he hlt
      subst he
      obtain ⟨ad', u', _, _, h1, h2, _, _, _, h6⟩ := cell j hlt
      rw [hA] at h1
      cases h1
      rw [h2]
      rfl
    · intro i x j q hi hj
      obtain ⟨ad', u, h1, h2, h3, h4⟩ := h i x j q hi hj
      rw [hA] at h1
      cases h1
      have hlt : i * sz + j < ys.length * sz := by
        have h1 : i < ys.length := (List.getElem?_eq_some_iff.1 hi).1
        have h2 : j < sz := by rw [← hfl i x hi]; exact (List.getElem?_eq_some_iff.1 hj).1
        have : (i + 1) * sz ≤ ys.length * sz := Nat.mul_le_mul_right _ h1
        rw [Nat.add_mul] at this
        omega
      refine ⟨u, ?_, h3, h4⟩
      rw [List.getElem?_map, List.getElem?_eq_getElem (by simpa using hlt)]
      simp [h2]

/-! ### append -/
theorem first_none (size n : Nat) (l c : Nat) : (Builtin.firstCells size n (.slice none l c)).run P w = .ok #[] w := rfl

/-- append, whatever the slice. -/
theorem append_run {t ty e te : TypeId} {i : TypeInfo} {z : Value} {sz bytes : Nat} (ht : P.underlying t = some (.slice e)) (hi : P.info? e = some i) (hz : i.zero = some z) (hsize : i.size = sz) (hby : i.bytes = bytes) (hzs : z.cells.size = sz)
    {A B : Option Addr} {n cap m c : Nat} {olds news : List Value} (hlo : olds.length = n * sz) (hln : news.length = m * sz) (hone : ∀ u ∈ news, u.oneCell' = true)
    (hB : ∀ ad, B = some ad → ∀ (j : Nat) (u : Value), news[j]? = some u → w.cell? (ad.add j) = some u) (hB2 : 0 < m * sz → ∃ ad, B = some ad)
    (hA : (cap = 0 ∧ n = 0) ∨ ∃ b cur, A = some ⟨b, 0, none⟩ ∧ w.heap[b]? = some (.cells cur te (0, 0)) ∧ cur.size = cap * sz ∧ n ≤ cap ∧ cur.toList.take (n * sz) = olds)
    (hsp : 0 < sz) (h63 : n + m ≤ maxLen) (hbytes : (n + m) * bytes ≤ 140737488355328) (hcap : cap ≤ maxLen) :
    ∃ A' cap' w', (Builtin.append_ #[t, t] ty #[.slice A n cap, .slice B m c]).run P w = .ok (.slice A' (n + m) cap') w' ∧ w'.os = w.os ∧ w'.tape = w.tape ∧ w'.output = w.output ∧ w.heap.size ≤ w'.heap.size ∧ cap' ≤ maxLen ∧ n + m ≤ cap' ∧ NoFz w.heap.size w' ∧
      ((A' = A ∧ cap' = 0 ∧ cap = 0 ∧ n = 0 ∧ m = 0 ∧ w' = w) ∨
       (∃ b cur te', A' = some ⟨b, 0, none⟩ ∧ w'.heap[b]? = some (.cells cur te' (0, 0)) ∧ cur.size = cap' * sz ∧ cur.toList.take ((n + m) * sz) = olds ++ news ∧
         ((A = some ⟨b, 0, none⟩ ∧ cap' = cap ∧ ∀ b', b' ≠ b → w'.heap[b']? = w.heap[b']?) ∨ (b = w.heap.size ∧ ∀ b', b' < w.heap.size → w'.heap[b']? = w.heap[b']?)) ∧ b < w'.heap.size)) := by
  subst hsize
  subst hby
  have hlen : (olds ++ news).length = (n + m) * i.size := by rw [List.length_append, hlo, hln, Nat.add_mul]
  -- the appended cells
  have hfirst : ∀ w2 : World, (∀ x, w2.cell? x = w.cell? x) → (Builtin.firstCells i.size m (.slice B m c)).run P w2 = .ok news.toArray w2 := by
    intro w2 hw2
    cases B with
    | none =>
      have : news = [] := by
        rcases Nat.eq_zero_or_pos (m * i.size) with h | h
        · exact List.eq_nil_of_length_eq_zero (by omega)
        · obtain ⟨ad, h⟩ := hB2 h; cases h
      subst this
      rfl
    | some ad =>
      exact run_firstCells_some (P := P) w2 i.size m ad m c news hln (fun j u hu => by rw [hw2]; exact hB ad rfl j u hu)
  have grown : ∀ w2 : World, w2.heap = w.heap → w2.os = w.os → w2.tape = w.tape → w2.output = w.output → ∀ C, n + m ≤ C → C ≤ maxLen →
      ∃ A' cap' w', (Result.ok (Value.slice (some ⟨w2.heap.size, 0, none⟩) (n + m) C) (w2.alloc (.cells (olds.toArray ++ news.toArray ++ Builtin.zeroCells z.cells (C - (n + m))) e)) : Result Value) = .ok (.slice A' (n + m) cap') w' ∧ w'.os = w.os ∧ w'.tape = w.tape ∧ w'.output = w.output ∧ w.heap.size ≤ w'.heap.size ∧ cap' ≤ maxLen ∧ n + m ≤ cap' ∧ NoFz w.heap.size w' ∧
      ((A' = A ∧ cap' = 0 ∧ cap = 0 ∧ n = 0 ∧ m = 0 ∧ w' = w) ∨
       (∃ b cur te', A' = some ⟨b, 0, none⟩ ∧ w'.heap[b]? = some (.cells cur te' (0, 0)) ∧ cur.size = cap' * i.size ∧ cur.toList.take ((n + m) * i.size) = olds ++ news ∧
         ((A = some ⟨b, 0, none⟩ ∧ cap' = cap ∧ ∀ b', b' ≠ b → w'.heap[b']? = w.heap[b']?) ∨ (b = w.heap.size ∧ ∀ b', b' < w.heap.size → w'.heap[b']? = w.heap[b']?)) ∧ b < w'.heap.size)) := by
    intro w2 e1 e2 e3 e4 C h1 h2
    refine ⟨_, _, _, rfl, e2, e3, e4, by simp [e1], h2, h1, (fun b hb c ty fr hx => by
      rw [heap_push, e1] at hx
      split at hx
      · cases hx; rfl
      · rename_i hne
        rw [Array.getElem?_eq_none (by omega)] at hx; cases hx), .inr ⟨w.heap.size, _, e, by rw [e1], by rw [heap_push, e1, if_pos rfl], ?_, ?_, .inr ⟨rfl, fun b' hb' => by rw [heap_push, e1, if_neg (by omega)]⟩, by simp [e1]⟩⟩
    · simp only [Array.size_append, List.size_toArray, size_zeroCells, hzs, hlo, hln, ← Nat.add_mul]
      congr 1
      omega
    · simp only [Array.toList_append, List.append_assoc]
      rw [← List.append_assoc, ← hlen]
      exact List.take_left
  by_cases hroom : n + m ≤ cap
  · rcases hA with ⟨rfl, rfl⟩ | ⟨b, cur, rfl, hh, hcs, hnc, htake⟩
    · have hm : m = 0 := by omega
      subst hm
      have hnews : news = [] := List.eq_nil_of_length_eq_zero (by simpa using hln)
      subst hnews
      refine ⟨A, 0, w, ?_, rfl, rfl, rfl, Nat.le_refl _, Nat.zero_le _, Nat.le_refl _, (fun b hb c ty fr hx => by rw [Array.getElem?_eq_none hb] at hx; cases hx), .inl ⟨rfl, rfl, rfl, rfl, rfl, rfl⟩⟩
      cases A <;> simp [Builtin.append_, run_underlying ht, sizeOf, typeInfo, hi, Builtin.lenOf, hfirst w (fun _ => rfl), storeCells]
    · have hfit : n * i.size + news.length ≤ cur.size := by rw [hln, hcs, ← Nat.add_mul]; exact Nat.mul_le_mul_right _ hroom
      have hst := run_storeCells_at P b (n * i.size) te news 0 cur w hh (by simpa using hfit) hone
      simp only [Nat.add_zero] at hst
      refine ⟨some ⟨b, 0, none⟩, cap, w.setRow b (cur.toList.take (n * i.size) ++ news ++ cur.toList.drop (n * i.size + news.length)).toArray, ?_, rfl, rfl, rfl, ?_, hcap, hroom, (fun b' hb' c ty fr hx => by rw [Array.getElem?_eq_none (by simpa using hb')] at hx; cases hx), .inr ⟨b, _, te, rfl, setRow_heap w b cur _ te _ hh, ?_, ?_, .inl ⟨rfl, rfl, fun b' hb' => setRow_other w b b' _ hb'⟩, ?_⟩⟩
      · simp [Builtin.append_, run_underlying ht, sizeOf, typeInfo, hi, Builtin.lenOf, hroom, hfirst w (fun _ => rfl), Addr.add_lit, hst]
      · simp
      · simp only [List.size_toArray, List.length_append, List.length_take, List.length_drop, Array.length_toList]
        omega
      · rw [htake, ← hlen]
        exact List.take_left
      · simp
        rcases Nat.lt_or_ge b w.heap.size with h | h
        · exact h
        · rw [Array.getElem?_eq_none h] at hh; cases hh
  · have hgrow : cap < n + m := by omega
    have hC1 := grownCap_ge w (n + m) cap e
    have hC2 := grownCap_le_maxLen w (n + m) cap e h63
    have hcells : (Builtin.firstCells i.size n (.slice A n cap)).run P w.drew = .ok olds.toArray w.drew := by
      rcases hA with ⟨rfl, rfl⟩ | ⟨b, cur, rfl, hh, hcs, hnc, htake⟩
      · have : olds = [] := List.eq_nil_of_length_eq_zero (by simpa using hlo)
        subst this
        cases A with
        | none => rfl
        | some ad => exact run_firstCells_some (P := P) w.drew i.size 0 ad 0 0 [] (by simp) (by simp)
      · refine run_firstCells_some (P := P) w.drew i.size n ⟨b, 0, none⟩ n cap olds hlo (fun j u hu => ?_)
        rw [add_none, World.cell?_drew]
        simp only [World.cell?, hh, Option.isSome_none, Bool.false_eq_true, if_false, Nat.zero_add]
        rw [← htake, List.getElem?_take] at hu
        split at hu
        · simpa using hu
        · cases hu
    have hfits := growslice_fits (need := n + m) (old := cap) (bytes := i.bytes) hgrow hbytes
    obtain ⟨A', cap', w', h1, h2⟩ := grown w.drew rfl rfl rfl rfl (grownCap w (n + m) cap e) hC1 hC2
    refine ⟨A', cap', w', ?_, h2⟩
    rw [← h1]
    have hn1 : ¬ ((n + m : Nat) : Int) > IntKind.i64.max ∨ True := .inr trivial
    have hmx : ¬ (((n + m : Nat) : Int) > IntKind.i64.max) := by
      have : (IntKind.i64.max : Int) = 9223372036854775807 := by decide
      rw [this]
      simp only [maxLen] at h63
      omega
    have hdr := hfirst w.drew (fun _ => rfl)
    simp only [Builtin.append_, List.getElem?_toArray, List.getElem?_cons_zero, List.getElem?_cons_succ]
    simp [run_underlying ht, sizeOf, typeInfo, hi, Builtin.lenOf, show ¬ n + m ≤ cap by omega, zeroValue, hz]
    rw [if_neg (by intro ⟨h, _⟩; exact hmx (by simpa using h)), if_neg (by simpa using hfits)]
    simp [Question.forced, World.drew_eq, hcells, hdr, newRow, grownCap]
    congr 2
    apply Array.ext'
    simp [List.append_assoc]

end
end Go.Proofs.Ytbdknlejnacmgaa.Pi
