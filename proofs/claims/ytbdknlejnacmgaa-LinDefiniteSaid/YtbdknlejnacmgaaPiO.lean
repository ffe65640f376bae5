/-
  Each operation, on: lists made, filled, copied; strings of bytes; structs built.
-/
import Derived.Test.YtbdknlejnacmgaaPiN
import Derived.Great.FillDense
namespace Go.Proofs.Ytbdknlejnacmgaa.Pi
open Go
set_option linter.unusedVariables false
set_option linter.unusedSimpArgs false
section
variable {P : Program} {base : Nat} {bio : Option Nat} {w0 : World} {M0 : Mem} {bk0 : Option Blk} {nt : Nat} {L : List Nat} {s : St} {M : Mem} {μ : NMap} {β : Nat → Option Nm} {a : Act} {w : World}
variable {o : Oper} {d : Option Nat} {K : Act → World → Prop} {Q : Exit → Act → World → Prop} {F : CallF} {gd : Option (Nat × Bool)} {wl : Option Nat} {av : List Nat} {e : Eff}

theorem strBytes_all : ∀ {xs : List (List PV)} {l : List Nat}, strBytes xs = some l → ∃ ns : List Int, xs = ns.map (fun n => [PV.int .u8 n]) ∧ l = ns.map fun n => n.toNat % 256
  | [], l, h => by simp [strBytes] at h; subst h; exact ⟨[], rfl, rfl⟩
  | x :: xs, l, h => by
    unfold strBytes at h
    split at h
    · cases ‹_ = ([] : List (List PV))›
    · rename_i n r hx
      cases hx
      obtain ⟨l', hl, rfl⟩ := Option.map_eq_some_iff.1 h
      obtain ⟨ns, rfl, rfl⟩ := strBytes_all hl
      exact ⟨n :: ns, rfl, rfl⟩
    · cases h

theorem push_bytes : ∀ (ns : List Int) (s : ByteArray), ((ns.foldl (fun r n => r.push (UInt8.ofNat n.toNat)) s).data.toList.map UInt8.toNat) = s.data.toList.map UInt8.toNat ++ ns.map fun n => n.toNat % 256
  | [], s => by simp
  | n :: ns, s => by
    rw [List.foldl_cons, push_bytes ns]
    simp [ByteArray.push]

theorem pur_tostr (hs : Sim base bio w0 M0 bk0 nt L s M μ β a w) {x : PArg} (ok : okOp P o.op o.type (.tostr x) = true) (hev : evOp F s ⟨d, .tostr x, gd, wl, av⟩ = some e) : Pur P M μ o a w e := by
  simp only [okOp] at ok
  split at ok
  · rename_i ts td x' he
    simp only [Bool.and_eq_true] at ok
    obtain ⟨⟨ok1, ok2⟩, ok3⟩ := ok
    split at ok2
    · rename_i hud
      split at ok3
      · rename_i et hus
        split at ok3
        · rename_i hue
          simp only [evOp] at hev
          obtain ⟨xs, hxs, hev⟩ := Option.bind_eq_some_iff.1 hev
          obtain ⟨l, hl, rfl⟩ := Option.map_eq_some_iff.1 hev
          obtain ⟨ns, rfl, rfl⟩ := strBytes_all hl
          have hf : fits 1 (ns.map fun n => [PV.int .u8 n]) = true := by simp [fits]
          obtain ⟨A, c, hv, hcell⟩ := elems_sound hs hxs (okArg_rep hs.regs ok1) hf
          simp only [List.length_map] at hv
          have hconv := run_convert_bytes_string (P := P) w ts td et A ns.length c hus hue hud
          cases A with
          | none =>
            have hn : ns = [] := by
              cases ns with
              | nil => rfl
              | cons n ns => obtain ⟨ad, u, h, _⟩ := hcell 0 _ 0 _ rfl rfl; cases h
            subst hn
            refine ⟨_, .string .empty, rfl, ?_, .str (by simp)⟩
            simp only [execOp, he, hv, Sem.run_bind, hconv]
            simp [Conv.bytesToString]
          | some ad =>
            have hload : (loadCells ad ns.length).run P w = .ok (ns.map (Value.int .u8)).toArray w := by
              have := run_loadCells_list (P := P) w ad (ns.map (Value.int .u8)) (fun j v hj => by
                rw [List.getElem?_map, Option.map_eq_some_iff] at hj
                obtain ⟨n, hn, rfl⟩ := hj
                obtain ⟨ad', u, h1, h2, h3, h4⟩ := hcell j [PV.int .u8 n] 0 (PV.int .u8 n) (by simp [hn]) rfl
                cases h1
                cases h3
                simpa using h2)
              simpa using this
            have := run_bytesToString (P := P) w ad ns.length c ns hload
            refine ⟨_, .string (ns.foldl (fun r n => r.push (UInt8.ofNat n.toNat)) ByteArray.empty), rfl, ?_, .str (by rw [push_bytes]; simp)⟩
            simp only [execOp, he, hv, Sem.run_bind, hconv, this, Result.andThen_ok, Sem.run_pure]
        · cases ok3
      · cases ok3
    · cases ok2
  · cases ok

/-! ### make -/
theorem snd_make (hs : Sim base bio w0 M0 bk0 nt L s M μ β a w) (hd : o.dst = d) (hdn : ∀ d', d = some d' → d' < nt) {l : Nat} {zero : List PV} {bytes : Nat} {n c : PArg}
    (ok : okOp P o.op o.type (.make l zero bytes n c) = true) (hl : l ∉ L) (hev : evOp F s ⟨d, .make l zero bytes n c, gd, wl, av⟩ = some e)
    (hK : Goes K base bio w0 M0 bk0 nt (l :: L) (s.app d e) a d) : o.wp P a w K Q := by
  simp only [okOp] at ok
  split at ok
  · rename_i t n' c' he
    simp only [Bool.and_eq_true] at ok
    obtain ⟨⟨okn, okc⟩, ok2⟩ := ok
    split at ok2
    · rename_i et het
      simp only [Bool.and_eq_true, beq_iff_eq, decide_eq_true_eq] at ok2
      obtain ⟨⟨⟨⟨okz, hsz⟩, hby⟩, hz1⟩, hb1⟩ := ok2
      have ht := elemT_und het
      split at okz
      · rename_i z hz
        obtain ⟨k1, k2⟩ := okCells_rep okz
        simp only [evOp] at hev
        obtain ⟨m, hm, hev⟩ := Option.bind_eq_some_iff.1 hev
        obtain ⟨k, hk, hev⟩ := Option.bind_eq_some_iff.1 hev
        obtain ⟨hc, hev⟩ := cond_some hev
        simp only [Bool.and_eq_true, decide_eq_true_eq] at hc
        obtain ⟨⟨hl1, hmk⟩, hbytes⟩ := hc
        cases hev
        obtain ⟨ik, hn'⟩ := nat?_rep hm (okArg_rep hs.regs okn)
        obtain ⟨ik2, hc'⟩ := nat?_rep hk (okArg_rep hs.regs okc)
        unfold sizeT at hsz
        obtain ⟨ti, hti, hisz⟩ := Option.map_eq_some_iff.1 hsz
        have hiby : ti.bytes = bytes := by unfold bytesT at hby; rw [hti] at hby; simpa using hby
        obtain ⟨zv, hzz, hzc⟩ : ∃ zv, ti.zero = some zv ∧ zv.cells.toList = z := by
          unfold zeroT at hz
          rw [hti] at hz
          cases hq : ti.zero with
          | none => simp [hq] at hz
          | some zv => simp [hq] at hz; exact ⟨zv, rfl, hz⟩
        have hbk : k ≤ 140737488355328 := by
          have : 1 * k ≤ bytes * k := Nat.mul_le_mul_right _ hb1
          omega
        have hrun := run_make (P := P) w t et ti zv ht hti hzz ik ik2 (m : Int) (k : Int) (by omega) (by omega) (by rw [hiby]; have : ((bytes * k : Nat) : Int) ≤ 140737488355328 := by omega
                                                                                                                    rw [Int.natCast_mul] at this; omega) (by omega)
        simp only [Int.toNat_natCast] at hrun
        have hzsz : zv.cells.size = zero.length := by rw [← k1, ← hzc]; simp
        have hzpos : 0 < zero.length := hz1
        have hs2 := hs.addBlk l zero.length k (madeCells zv.cells (k * ti.size)) et { xs := List.replicate m zero, pure := zero.all pu0 } hl1 hl
          (fun hp x hx p hpx => by
            simp only at hp hx
            obtain ⟨_, rfl⟩ := List.mem_replicate.1 hx
            exact List.all_eq_true.1 hp p hpx) (by simp only [maxLen]; omega) (by rw [size_madeCells, hisz]) (by simpa using hmk)
          (fun i x hi => by
            have hi1 : i < m := by have := (List.getElem?_eq_some_iff.1 hi).1; simpa using this
            have hx : x = zero := by
              have := List.mem_of_getElem? hi
              exact (List.mem_replicate.1 this).2
            subst hx
            refine ⟨rfl, fun j p hp => ?_⟩
            have hj : j < x.length := (List.getElem?_eq_some_iff.1 hp).1
            obtain ⟨v, hv, hlit⟩ := k2 j p hp
            obtain ⟨r1, r2, _⟩ := okLit_rep hlit M μ
            refine ⟨v, ?_, r1, r2⟩
            have hlt : i * x.length + j < k * ti.size := by
              rw [hisz]
              have : (i + 1) * x.length ≤ k * x.length := Nat.mul_le_mul_right _ (by omega)
              rw [Nat.add_mul] at this
              omega
            unfold madeCells
            rw [Array.getElem?_map, Array.getElem?_range, if_pos hlt, Option.map_some, hzsz]
            have hmod : (i * x.length + j) % x.length = j := by
              rw [Nat.add_comm, Nat.add_mul_mod_self_right]
              exact Nat.mod_eq_of_lt hj
            rw [hmod]
            have : zv.cells[j]? = some v := by rw [← hzc] at hv; simpa using hv
            simp [getElem!_def, this])
        have hs3 := hs2.fill d hdn (p := .own ⟨l, s.g, 0⟩ zero.length 0 m) (v := .slice (some ⟨w.heap.size, 0, none⟩) m k)
          (.own (upd_same ..) rfl hmk (by simp) (by simp only [maxLen]; omega) (fun _ => .inr ⟨_, rfl, by simp⟩) (fun h => by cases h))
        exact wp_val (by simp [execOp, he, hn', hc', hrun]) hd (hK _ _ _ _ _ hs3)
      · cases okz
    · cases ok2
  · cases ok

/-! ### copy -/
theorem snd_copy (hs : Sim base bio w0 M0 bk0 nt L s M μ β a w) (hd : o.dst = d) (hdn : ∀ d', d = some d' → d' < nt) {sz : Nat} {x y : PArg}
    (ok : okOp P o.op o.type (.copy sz x y) = true) (hev : evOp F s ⟨d, .copy sz x y, gd, wl, av⟩ = some e)
    (hK : Goes K base bio w0 M0 bk0 nt L (s.app d e) a d) : o.wp P a w K Q := by
  simp only [okOp] at ok
  split at ok
  · rename_i args ats he
    simp only [Bool.and_eq_true] at ok
    obtain ⟨ok1, ok2⟩ := ok
    obtain ⟨ox, oy, hargs, okx, oky⟩ := okArgs2 ok1
    have hargs := arr2 hargs
    subst hargs
    split at ok2
    · rename_i t hat
      split at ok2
      · rename_i et het
        simp only [Bool.and_eq_true, beq_iff_eq, decide_eq_true_eq] at ok2
        obtain ⟨hsz, hsp⟩ := ok2
        have ht := elemT_und het
        have hrx := okArg_rep hs.regs okx
        have hry := okArg_rep hs.regs oky
        have hrun0 : ∀ v w', (Builtin.copy_ ats o.type #[a.eval ox, a.eval oy]).run P w = .ok v w' → (execOp a.eval o).run P w = .ok (.value v) w' := by
          intro v w' h
          obtain ⟨cs, hcs⟩ := builtin_run (P := P) (a := a) (w := w) he
          rw [hcs]
          simp [builtin, h]
        simp only [evOp] at hev
        split at hev
        · rename_i n zs off len hx
          obtain ⟨ys, hys, hev⟩ := Option.bind_eq_some_iff.1 hev
          obtain ⟨hc, hev2⟩ := cond_some hev
          clear hev
          simp only [Bool.and_eq_true, Bool.not_eq_true', beq_iff_eq] at hc
          obtain ⟨⟨⟨⟨_, hfz⟩, hzz⟩, hfit⟩, hpu⟩ := hc
          subst hzz
          obtain ⟨ob, hob, hev⟩ := Option.bind_eq_some_iff.1 hev2
          clear hev2
          obtain ⟨hle, hev2⟩ := cond_some hev
          clear hev
          simp only [decide_eq_true_eq] at hle
          obtain ⟨en', hen', hev⟩ := Option.map_eq_some_iff.1 hev2
          clear hev2
          subst hev
          unfold put at hen'
          obtain ⟨en, hen, rfl⟩ := Option.map_eq_some_iff.1 hen'
          rw [hx] at hrx
          obtain ⟨A, cap, bk, hvx, g1, g2, g3, g4, g5, g6, g7⟩ := own_inv hrx
          obtain ⟨B, cy, hvy, hcell⟩ := elems_sound hs hys hry hfit
          rw [hvx, hvy] at hrun0
          have hfit2 : fits zs (ys.take len) = true := List.all_eq_true.2 fun q hq => List.all_eq_true.1 hfit q (List.mem_of_mem_take hq)
          have hcell2 : ∀ (i : Nat) (x : List PV) (j : Nat) (q : PV), (ys.take len)[i]? = some x → x[j]? = some q → ∃ ad u, B = some ad ∧ w.cell? (ad.add (i * zs + j)) = some u ∧ Rep M μ q u ∧ u.oneCell' = true := by
            intro i x j q hi hj
            rw [List.getElem?_take] at hi
            split at hi
            · exact hcell i x j q hi hj
            · cases hi
          obtain ⟨news, hn1, hn2, hn3, hn4, hn5⟩ := flat_cells hfit2 hcell2
          have hmin : Nat.min ys.length len = (ys.take len).length := by
            rw [List.length_take]; exact Nat.min_comm _ _
          have hfc : (Builtin.firstCells zs (ys.take len).length (.slice B ys.length cy)).run P w = .ok news.toArray w := by
            cases B with
            | none =>
              have : news = [] := by
                rcases Nat.eq_zero_or_pos ((ys.take len).length * zs) with h | h
                · exact List.eq_nil_of_length_eq_zero (by omega)
                · obtain ⟨ad, h⟩ := hn4 h; cases h
              subst this
              rfl
            | some ad => exact run_firstCells_some (P := P) w zs _ ad _ cy news hn1 (fun j u hu => hn3 ad rfl j u hu)
          obtain ⟨k, hk, hcont, hown⟩ := hs.objs n ob hob
          rw [g1] at hk
          cases hk
          obtain ⟨hp0, htot, hc⟩ := hcont
          have hlen1 : (ys.take len).length ≤ len := by simp; omega
          cases hb : bk.b with
          | none =>
            rw [hb] at hc
            obtain ⟨hxs0, ht0⟩ := hc
            have hl0 : len = 0 := by rw [hxs0] at hle; simp at hle; omega
            have ho0 : off = 0 := by rw [hxs0] at hle; simp at hle; omega
            subst hl0
            subst ho0
            have hA : A = none := by
              rcases g6 (.inl rfl) with ⟨_, h⟩ | ⟨b, h, _⟩
              · exact h
              · rw [hb] at h; cases h
            subst hA
            have hnews : news = [] := List.eq_nil_of_length_eq_zero (by simpa using hn1)
            subst hnews
            have hrun : (Builtin.copy_ ats o.type #[.slice none 0 cap, .slice B ys.length cy]).run P w = .ok (goInt 0) w := by
              simp only [Builtin.copy_, hat, List.getElem?_toArray, List.getElem?_cons_zero, List.getElem?_cons_succ, Sem.run_bind, run_underlying ht, Result.andThen_ok, Builtin.lenOf, Sem.run_pure, sizeT_run hsz, hmin]
              simp only [List.take_zero, List.length_nil] at hfc ⊢
              simp [hfc]
            have hs1 := hs.congr (s' := { s with h := { en with os := en.os.set n.j { xs := setAt ob.xs 0 (ys.take 0), pure := ob.pure } } :: s.h }) (by
              refine ⟨fun _ => rfl, fun l g => ?_, fun _ _ => rfl, rfl⟩
              obtain ⟨el, eg⟩ := efind_lg hen
              rw [efind_cons]
              by_cases e1 : en.l = l ∧ en.g = g
              · have hset : en.os.set n.j { xs := setAt ob.xs 0 (ys.take 0), pure := ob.pure } = en.os := by
                  have h1 : setAt ob.xs 0 (ys.take 0) = ob.xs := by simp [setAt]
                  rw [h1]
                  unfold hobj at hob
                  rw [hen] at hob
                  simp only [Option.bind_some] at hob
                  obtain ⟨q1, q2⟩ := List.getElem?_eq_some_iff.1 hob
                  rw [← q2]
                  exact List.set_getElem_self q1
                rw [if_pos e1, hset]
                show efind s.h l g = some en
                rw [← e1.1, ← e1.2, el, eg, hen]
              · rw [if_neg e1])
            have hs2 := hs1.fill d hdn (p := .int .i64 ((ys.take 0).length : Nat)) (v := goInt 0) (by simp [goInt]; exact .int .i64 0)
            exact wp_val (hrun0 _ _ hrun) hd (hK _ _ _ _ _ hs2)
          | some b =>
            rw [hb] at hc
            obtain ⟨cc, ty, hh, hcs, hxl, hxx⟩ := hc
            have hbound : off * bk.sz + news.length ≤ cc.size := by
              rw [hn1, hcs, ← g2, ← Nat.add_mul]
              exact Nat.mul_le_mul_right _ (by omega)
            have hA : (∃ b', A = some ⟨b', off * bk.sz, none⟩ ∧ bk.b = some b') ∨ news = [] := by
              by_cases h0 : off = 0 ∨ 0 < cap
              · rcases g6 h0 with ⟨h1, _⟩ | ⟨b', h1, h2⟩
                · rw [hb] at h1; cases h1
                · exact .inl ⟨b', h2, h1⟩
              · refine .inr (List.eq_nil_of_length_eq_zero ?_)
                rw [hn1]
                have : (ys.take len).length = 0 := by omega
                rw [this]; simp
            have hst : (match A with | some ad => storeCells ad news | none => pure () : Sem Unit).run P w = .ok () (w.setRow b (cc.toList.take (off * bk.sz) ++ news ++ cc.toList.drop (off * bk.sz + news.length)).toArray) := by
              have hgo := run_storeCells_at P b (off * bk.sz) ty news 0 cc w hh (by simpa using hbound) hn2
              rcases hA with ⟨b', rfl, hb'⟩ | hnil
              · rw [hb] at hb'
                cases hb'
                simpa using hgo
              · subst hnil
                have hw : w.setRow b (cc.toList.take (off * bk.sz) ++ [] ++ cc.toList.drop (off * bk.sz + ([] : List Value).length)).toArray = w := by
                  have h1 : (cc.toList.take (off * bk.sz) ++ [] ++ cc.toList.drop (off * bk.sz + ([] : List Value).length)).toArray = cc := by simp
                  rw [h1]
                  have h2 : (storeCells ⟨b, off * bk.sz, none⟩ [] 0).run P w = .ok () w := rfl
                  rw [hgo] at h2
                  have h3 := Result.ok.inj h2
                  have h4 : (0 : Nat) + off * bk.sz = off * bk.sz := by omega
                  simpa using h3.2
                rw [hw]
                cases A <;> simp [storeCells]
            have hrun : (Builtin.copy_ ats o.type #[.slice A len cap, .slice B ys.length cy]).run P w = .ok (goInt (ys.take len).length) (w.setRow b (cc.toList.take (off * bk.sz) ++ news ++ cc.toList.drop (off * bk.sz + news.length)).toArray) := by
              simp only [Builtin.copy_, hat, List.getElem?_toArray, List.getElem?_cons_zero, List.getElem?_cons_succ, Sem.run_bind, run_underlying ht, Result.andThen_ok, Builtin.lenOf, Sem.run_pure, sizeT_run hsz, hmin, hfc]
              cases A with
              | none =>
                have hw := (Result.ok.inj hst).2
                rw [← hw]
                simp
              | some ad => simp only at hst; simp [hst]
            have hn0 : (ys.take len).length ≤ len := hlen1
            have hsetl : (setAt ob.xs off (ys.take len)).length = ob.xs.length := setAt_length _ _ _ (by omega)
            have hs1 := hs.write (o' := { xs := setAt ob.xs off (ys.take len), pure := ob.pure }) (c := (cc.toList.take (off * bk.sz) ++ news ++ cc.toList.drop (off * bk.sz + news.length)).toArray) (w' := w.setRow b (cc.toList.take (off * bk.sz) ++ news ++ cc.toList.drop (off * bk.sz + news.length)).toArray) hob hfz g1 hb hen (setRow_heap _ _ _ _ _ _ hh) (fun b' hne => setRow_other _ _ _ _ hne) (by simp) rfl rfl rfl
              (fun hp x hx p hpx => by
                obtain ⟨i, hi⟩ := List.mem_iff_getElem?.1 hx
                rw [setAt_get _ _ _ (by omega)] at hi
                split at hi
                · have := List.mem_of_getElem? hi
                  exact allpu hpu x (List.mem_of_mem_take this) p hpx
                · exact hp0 hp x (List.mem_of_getElem? hi) p hpx)
              (by simp only [List.size_toArray, List.length_append, List.length_take, List.length_drop, Array.length_toList]; omega)
              (by rw [hsetl]; exact hxl)
              (fun i x hi => by
                rw [setAt_get _ _ _ (by omega)] at hi
                have hbd : off * bk.sz + news.length ≤ cc.toList.length := by simpa using hbound
                split at hi
                · rename_i hin
                  have hxz : x.length = zs := by
                    have := List.all_eq_true.1 hfit2 x (List.mem_of_getElem? hi)
                    simpa using this
                  refine ⟨by rw [hxz, g2], fun j p hp => ?_⟩
                  obtain ⟨u, hu, h2⟩ := hn5 _ x j p hi hp
                  refine ⟨u, ?_, h2⟩
                  have hj : j < zs := by rw [← hxz]; exact (List.getElem?_eq_some_iff.1 hp).1
                  have hul := (List.getElem?_eq_some_iff.1 hu).1
                  have e1 : i * bk.sz + j = off * bk.sz + ((i - off) * zs + j) := by
                    rw [g2, ← Nat.add_assoc, ← Nat.add_mul]
                    congr 2
                    omega
                  simp only [List.getElem?_toArray]
                  rw [seg_get _ _ _ hbd, if_pos (by omega), e1, Nat.add_sub_cancel_left]
                  exact hu
                · rename_i hout
                  obtain ⟨q1, q2⟩ := hxx i x hi
                  refine ⟨q1, fun j p hp => ?_⟩
                  obtain ⟨u, hu, h2⟩ := q2 j p hp
                  refine ⟨u, ?_, h2⟩
                  have hj : j < bk.sz := by rw [← q1]; exact (List.getElem?_eq_some_iff.1 hp).1
                  simp only [List.getElem?_toArray]
                  rw [seg_get _ _ _ hbd, if_neg ?_]
                  · simpa using hu
                  · intro ⟨z1, z2⟩
                    apply hout
                    rw [hn1, ← g2, ← Nat.add_mul] at z2
                    constructor
                    · rcases Nat.lt_or_ge i off with h | h
                      · have : (i + 1) * bk.sz ≤ off * bk.sz := Nat.mul_le_mul_right _ h
                        rw [Nat.add_mul] at this
                        omega
                      · exact h
                    · rcases Nat.lt_or_ge i (off + (ys.take len).length) with h | h
                      · exact h
                      · have : (off + (ys.take len).length) * bk.sz ≤ i * bk.sz := Nat.mul_le_mul_right _ h
                        omega)
            have hs2 := hs1.fill d hdn (p := .int .i64 ((ys.take len).length : Nat)) (v := goInt (ys.take len).length) (.int .i64 _)
            exact wp_val (hrun0 _ _ hrun) hd (hK _ _ _ _ _ hs2)
        · cases hev
      · cases ok2
    · cases ok2
  · cases ok

end
end Go.Proofs.Ytbdknlejnacmgaa.Pi
