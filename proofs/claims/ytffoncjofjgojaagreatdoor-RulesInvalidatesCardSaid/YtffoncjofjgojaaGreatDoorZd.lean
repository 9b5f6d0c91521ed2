/- control.Parse and the document's answer; slices.Sort and slices.Compact of texts, vary.Names; fields by name; what known names say. -/
import Derived.Test.YtffoncjofjgojaaGreatDoorZc
import Derived.Test.YtffoncjofjgojaaGreatDoorProg
import Derived.Shelf.Lays
import Derived.Shelf.Sort.Plain
import Derived.Shelf.Slices.In.SortNone
import Derived.Shelf.Slices.CompactS
import Derived.Sort.Walk0
set_option linter.all false
/-! part Z62 -/
namespace Go.Av
open Go.Proofs Go.RowKit
set_option maxRecDepth 100000


/-- pure_of_aw with orders (and cuts) -/
theorem pure_of_awT {P : Program} {f : FuncId} {fn : Func} {c : Code} {xs ys : List PC} {r : PC} (md : List Nat) (cls : List (Nat × List (Nat × Cls))) (lab : List (Nat × Nat)) (ot : List (Nat × OT)) (hm : P.follows .mixedOrders = true) (hf : P.funcs[f]? = some fn) (hb : fn.body = some c)
    (hnm : (fn.name == "runtime.NumGoroutine") = false) (hk : codeOk cls ot fn.ntmps c = true) (hx : xs.length ≤ fn.ntmps) (hr : r = packR ys) (h : aw P ⟨md, cls, lab, 0, ot⟩ c (initS (xs.map .p) ⟨[], [], 0⟩) (QRet P fn (RPure ys))) : PureC P f xs r := by
  refine ⟨⟨fn, hf, hnm, by rw [hb]; rfl⟩, fun M w vs hH hvs => ?_⟩
  have hw : SatW w M (fun _ => False) ⟨[], [], 0⟩ ⟨M, fun _ => none, fun _ => none⟩ w := by
    refine ⟨hH, Keep.refl _ _, fun _ _ _ => rfl, Mem.le_refl _, ?_, ?_, ?_, ?_, ?_, ?_⟩
    · intro i o e; simp [lk] at e
    · intro i el sz e; simp [lk] at e
    · intro i j o p b c b' c' e; simp [lk] at e
    · intro i j o p u v b e; simp [lk] at e
    · intro i j o p b c v e; simp [lk] at e
    · intro i _; exact ⟨rfl, rfl⟩
  have := run_of_aw (cx := ⟨md, cls, lab, 0, ot⟩) (g := ⟨M, fun _ => none, fun _ => none⟩) (F := fun _ => False) hm hf hb hk (by simpa using hx) rfl h hw (reps_p hvs)
  refine this.mono ?_
  rintro e w' ⟨us, zs, g', tb', rfl, hle, hS, hR, hz⟩
  have hreps := toAll_p hR hz
  refine ⟨_, g'.M, rfl, by rw [hr]; exact packR_rep hreps, hS.holds, hle.M, fun b hb => hS.old b hb (fun h => h), ?_⟩
  exact ⟨hS.keep.os, hS.keep.tape, hS.keep.output, hS.keep.size, fun k hk => hS.keep.block k hk (fun h => h)⟩
def stepN (n : List UInt8) (v : Int) (c : Ctl) : Ctl :=
  match flagI n with
  | some k => (c.1.set k true, c.2)
  | none => match cntI n with
    | some k => if c.2.getD k 0 < 0 then (c.1, c.2.set k v) else c
    | none => c
set_option maxHeartbeats 1000000 in
theorem stepN_eq (n : List UInt8) (v : Int) (b0 b1 b2 b3 b4 b5 b6 : Bool) (i0 i1 i2 i3 : Int) : stepN n v ([b0, b1, b2, b3, b4, b5, b6], [i0, i1, i2, i3]) =
    ([b0 || n == nm0, b1 || n == nm1, b2 || n == nm2, b3 || n == nm3, b4 || n == nm4, b5 || n == nm5, b6 || n == nm6], [if n = nm7 ∧ i0 < 0 then v else i0, if n = nm8 ∧ i1 < 0 then v else i1, if n = nm9 ∧ i2 < 0 then v else i2, if n = nm10 ∧ i3 < 0 then v else i3]) := by
  have e : ∀ m : List UInt8, n ≠ m → (n == m) = false := fun m hm => by simpa using hm
  by_cases h0 : n = nm0
  · subst h0
    simp [stepN, flagI, cntI, nm0, nm1, nm2, nm3, nm4, nm5, nm6, nm7, nm8, nm9, nm10]
  by_cases h1 : n = nm1
  · subst h1
    simp [stepN, flagI, cntI, nm0, nm1, nm2, nm3, nm4, nm5, nm6, nm7, nm8, nm9, nm10]
  by_cases h2 : n = nm2
  · subst h2
    simp [stepN, flagI, cntI, nm0, nm1, nm2, nm3, nm4, nm5, nm6, nm7, nm8, nm9, nm10]
  by_cases h3 : n = nm3
  · subst h3
    simp [stepN, flagI, cntI, nm0, nm1, nm2, nm3, nm4, nm5, nm6, nm7, nm8, nm9, nm10]
  by_cases h4 : n = nm4
  · subst h4
    simp [stepN, flagI, cntI, nm0, nm1, nm2, nm3, nm4, nm5, nm6, nm7, nm8, nm9, nm10]
  by_cases h5 : n = nm5
  · subst h5
    simp [stepN, flagI, cntI, nm0, nm1, nm2, nm3, nm4, nm5, nm6, nm7, nm8, nm9, nm10]
  by_cases h6 : n = nm6
  · subst h6
    simp [stepN, flagI, cntI, nm0, nm1, nm2, nm3, nm4, nm5, nm6, nm7, nm8, nm9, nm10]
  by_cases h7 : n = nm7
  · subst h7
    by_cases hi : i0 < 0 <;> simp [stepN, flagI, cntI, hi, nm0, nm1, nm2, nm3, nm4, nm5, nm6, nm7, nm8, nm9, nm10]
  by_cases h8 : n = nm8
  · subst h8
    by_cases hi : i1 < 0 <;> simp [stepN, flagI, cntI, hi, nm0, nm1, nm2, nm3, nm4, nm5, nm6, nm7, nm8, nm9, nm10]
  by_cases h9 : n = nm9
  · subst h9
    by_cases hi : i2 < 0 <;> simp [stepN, flagI, cntI, hi, nm0, nm1, nm2, nm3, nm4, nm5, nm6, nm7, nm8, nm9, nm10]
  by_cases h10 : n = nm10
  · subst h10
    by_cases hi : i3 < 0 <;> simp [stepN, flagI, cntI, hi, nm0, nm1, nm2, nm3, nm4, nm5, nm6, nm7, nm8, nm9, nm10]
  simp [stepN, flagI, cntI, h0, e _ h0, h1, e _ h1, h2, e _ h2, h3, e _ h3, h4, e _ h4, h5, e _ h5, h6, e _ h6, h7, e _ h7, h8, e _ h8, h9, e _ h9, h10, e _ h10]
theorem stepC_eq (c : Ctl) (p : List UInt8) : stepC c p = if (readB p).2.2.2 = false then c else stepN (readB p).1 (numD (readB p).2.1 (readB p).2.2.1 (if (readB p).1 = nm9 then 2147483647 else 0)) c := rfl
end Go.Av

/-! part TryzSort -/
namespace Go.Proofs
open Go.Shelf
def Tryz.renS : Go.Shelf.Ren := ⟨fun | 190 => 90 | 194 => 91 | 125 => 135 | 128 => 173 | 129 => 174 | 258 => 134 | 302 => 164 | 303 => 165 | 304 => 166 | 305 => 167 | 306 => 168 | 307 => 169 | 308 => 170 | 309 => 171 | 310 => 172 | 329 => 216 | 330 => 217 | 333 => 215 | 334 => 218 | 335 => 219 | 336 => 220 | 344 => 248 | n => n, fun | 31 => 61 | 46 => 147 | 51 => 178 | 53 => 180 | 131 => 75 | 182 => 171 | 183 => 172 | 218 => 207 | 222 => 141 | 228 => 226 | 229 => 35 | n => n, fun | n => n⟩
theorem Tryz.l190 : Go.Proofs.Lays.n190 Tryz.prog Tryz.renS := {
  mixed := by kernel_rfl
  f125 := Tryz.func135.trans (congrArg some (by kernel_rfl))
  f128 := Tryz.func173.trans (congrArg some (by kernel_rfl))
  f129 := Tryz.func174.trans (congrArg some (by kernel_rfl))
  f190 := Tryz.func90.trans (congrArg some (by kernel_rfl))
  f258 := Tryz.func134.trans (congrArg some (by kernel_rfl))
  f302 := Tryz.func164.trans (congrArg some (by kernel_rfl))
  f303 := Tryz.func165.trans (congrArg some (by kernel_rfl))
  f304 := Tryz.func166.trans (congrArg some (by kernel_rfl))
  f305 := Tryz.func167.trans (congrArg some (by kernel_rfl))
  f306 := Tryz.func168.trans (congrArg some (by kernel_rfl))
  f307 := Tryz.func169.trans (congrArg some (by kernel_rfl))
  f308 := Tryz.func170.trans (congrArg some (by kernel_rfl))
  f309 := Tryz.func171.trans (congrArg some (by kernel_rfl))
  f310 := Tryz.func172.trans (congrArg some (by kernel_rfl))
  f329 := Tryz.func216.trans (congrArg some (by kernel_rfl))
  f330 := Tryz.func217.trans (congrArg some (by kernel_rfl))
  f333 := Tryz.func215.trans (congrArg some (by kernel_rfl))
  f334 := Tryz.func218.trans (congrArg some (by kernel_rfl))
  f335 := Tryz.func219.trans (congrArg some (by kernel_rfl))
  f336 := Tryz.func220.trans (congrArg some (by kernel_rfl))
  f344 := Tryz.func248.trans (congrArg some (by kernel_rfl))
  t0 := Tryz.underlying0
  a0 := Tryz.isAgg0
  z0 := Tryz.sizeOf0
  v0 := Tryz.zeroValue0
  t3 := Tryz.underlying3
  a3 := Tryz.isAgg3
  z3 := Tryz.sizeOf3
  v3 := Tryz.zeroValue3
  t4 := Tryz.underlying4
  a4 := Tryz.isAgg4
  z4 := Tryz.sizeOf4
  v4 := Tryz.zeroValue4
  t5 := Tryz.underlying5
  a5 := Tryz.isAgg5
  z5 := Tryz.sizeOf5
  v5 := Tryz.zeroValue5
  t9 := Tryz.underlying9
  a9 := Tryz.isAgg9
  z9 := Tryz.sizeOf9
  v9 := Tryz.zeroValue9
  t31 := Tryz.underlying61
  a31 := Tryz.isAgg61
  z31 := Tryz.sizeOf61
  v31 := Tryz.zeroValue61
  t46 := Tryz.underlying147
  a46 := Tryz.isAgg147
  z46 := Tryz.sizeOf147
  v46 := Tryz.zeroValue147
  t51 := Tryz.underlying178
  a51 := Tryz.isAgg178
  z51 := Tryz.sizeOf178
  v51 := Tryz.zeroValue178
  t53 := Tryz.underlying180
  a53 := Tryz.isAgg180
  z53 := Tryz.sizeOf180
  v53 := Tryz.zeroValue180
  t131 := Tryz.underlying75
  a131 := Tryz.isAgg75
  z131 := Tryz.sizeOf75
  v131 := Tryz.zeroValue75
  t182 := Tryz.underlying171
  a182 := Tryz.isAgg171
  z182 := Tryz.sizeOf171
  v182 := Tryz.zeroValue171
  t183 := Tryz.underlying172
  a183 := Tryz.isAgg172
  z183 := Tryz.sizeOf172
  v183 := Tryz.zeroValue172
  t218 := Tryz.underlying207
  a218 := Tryz.isAgg207
  z218 := Tryz.sizeOf207
  v218 := Tryz.zeroValue207
  t222 := Tryz.underlying141
  a222 := Tryz.isAgg141
  z222 := Tryz.sizeOf141
  v222 := Tryz.zeroValue141
  t228 := Tryz.underlying226
  a228 := Tryz.isAgg226
  z228 := Tryz.sizeOf226
  v228 := Tryz.zeroValue226
  t229 := Tryz.underlying35
  a229 := Tryz.isAgg35
  z229 := Tryz.sizeOf35
  v229 := Tryz.zeroValue35
  }
theorem Tryz.l194 : Go.Proofs.Lays.n194 Tryz.prog Tryz.renS := {
  mixed := by kernel_rfl
  f194 := Tryz.func91.trans (congrArg some (by kernel_rfl))
  t0 := Tryz.underlying0
  a0 := Tryz.isAgg0
  z0 := Tryz.sizeOf0
  v0 := Tryz.zeroValue0
  t3 := Tryz.underlying3
  a3 := Tryz.isAgg3
  z3 := Tryz.sizeOf3
  v3 := Tryz.zeroValue3
  t4 := Tryz.underlying4
  a4 := Tryz.isAgg4
  z4 := Tryz.sizeOf4
  v4 := Tryz.zeroValue4
  t9 := Tryz.underlying9
  a9 := Tryz.isAgg9
  z9 := Tryz.sizeOf9
  v9 := Tryz.zeroValue9
  t31 := Tryz.underlying61
  a31 := Tryz.isAgg61
  z31 := Tryz.sizeOf61
  v31 := Tryz.zeroValue61
  }
end Go.Proofs

/-! part Z82 -/
namespace Go.Av
open Go.Proofs Go.RowKit Go.Sort
set_option maxRecDepth 100000


theorem SatW.below {w0 : World} {M0 : Mem} {F : Nat → Prop} {tb : Tb} {g : G} {w w' : World} (h : SatW w0 M0 F tb g w) (hB : Below w.heap.size w w') : SatW w0 M0 F tb g w' := by
  have hH : Go.Av.Holds w' g.M := ⟨fun b o v e => by
    have h1 := h.holds b o v e
    have hb : b < w.heap.size := World.block_lt_of_cell? w _ h1
    rw [← h1]
    exact World.cell?_of_block (a := ⟨b, o, none⟩) (hB.block b hb), h.holds.g⟩
  exact h.later (N := g.M) (Mem.le_refl _) hH (fun _ _ => rfl) hB
theorem below_grow (w : World) (os : Array Obj) : Below w.heap.size w (grow w os) :=
  ⟨rfl, rfl, rfl, by simp, fun k hk => by simp only [grow]; rw [Array.getElem?_append_left hk]⟩
theorem putCells_size {α : Type} [Inhabited α] (enc : α → Value) (d : Array α) (c : Array Value) : (putCells enc 0 d c).size = c.size := by simp [putCells]
theorem putCells_get {α : Type} [Inhabited α] (enc : α → Value) (d : Array α) (c : Array Value) (k : Nat) : (putCells enc 0 d c)[k]? = if k < d.size ∧ k < c.size then some (enc d[k]!) else c[k]? := by
  unfold putCells
  rw [Array.getElem?_mapIdx]
  by_cases hk : k < c.size
  · rw [Array.getElem?_eq_getElem hk]
    by_cases hd : k < d.size
    · simp [hd, hk]
    · simp [hd]
  · rw [Array.getElem?_eq_none (by omega)]
    simp [hk]
theorem repVs_strs {g : G} : ∀ (l : List (List UInt8)), RepVs g (l.map encStr) ((l.map PC.str).map .p)
  | [] => .nil
  | a :: l => .cons (.p (.sc _ rfl)) (repVs_strs l)
/-- a row of texts is put anew -/
theorem SatW.putStr {w0 : World} {M0 : Mem} {F : Nat → Prop} {tb : Tb} {g : G} {w : World} (h : SatW w0 M0 F tb g w) {id b c : Nat} {o : Ob} (e : lk id tb.bx = some o) (hg : g.ob id = some (b, c)) (hc0 : 0 < c) (hsz : o.sz = 1) (hel : o.el < frM)
    (zs : List (List UInt8)) (hz : zs.length ≤ c) (n : Nat) (os : Array Obj) : SatW w0 M0 F (tb.setOb id { o with xs := (zs.map PC.str).map .p }) g (grow (putRow encStr (Sort.ahead w n) b 0 zs.toArray) os) := by
  obtain ⟨cur, e2, e3, ⟨tt, fz, e4, efz⟩, e5, e6, e7, e8, e9⟩ := (h.boxes id o e).real hg hc0
  have hcs : cur.size = c := by rw [e5, hsz, Nat.mul_one]
  have hget := putCells_get encStr zs.toArray cur
  have hsz' := putCells_size encStr zs.toArray cur
  have htake : (putCells encStr 0 zs.toArray cur).toList.take zs.length = zs.map encStr := by
    apply List.ext_getElem?
    intro k
    rw [List.getElem?_take, List.getElem?_map]
    by_cases hk : k < zs.length
    · rw [if_pos hk, Array.getElem?_toList, hget, if_pos ⟨by simpa using hk, by omega⟩, List.getElem?_eq_getElem hk]
      simp [hk]
    · rw [if_neg hk, List.getElem?_eq_none (by omega)]; rfl
  have h1 : SatW w0 M0 F (tb.setOb id { o with xs := (zs.map PC.str).map .p }) g (putRow encStr (Sort.ahead w n) b 0 zs.toArray) := by
    refine h.chgOb e hg hc0 e4 rfl rfl rfl (by simp [putRow, mapBlock, Sort.ahead]) (fun k hk => ?_) (cur' := putCells encStr 0 zs.toArray cur) (tt' := tt) (fz' := fz) ?_ hsz' (fun q => by rw [hsz']; exact q) rfl (by simp [hsz']; omega) ?_ ?_
    · simp only [putRow, mapBlock, Sort.ahead]
      rw [Array.getElem?_modify, if_neg (by omega)]
    · simp only [putRow, mapBlock, Sort.ahead]
      rw [Array.getElem?_modify, if_pos rfl, e4]; rfl
    · simp only [List.length_map]
      rw [htake]
      exact repVs_strs zs
    · intro v hv
      obtain ⟨k, hk⟩ := List.getElem?_of_mem hv
      rw [Array.getElem?_toList, hget] at hk
      split at hk
      · injection hk with hk; subst hk; rfl
      · exact e9 v (List.mem_of_getElem? (by rw [Array.getElem?_toList]; exact hk))
  exact h1.below (below_grow _ _)
theorem repVs_strs_inv {g : G} : ∀ {vs : List Value} {l : List (List UInt8)}, RepVs g vs ((l.map PC.str).map .p) → vs = l.map encStr
  | _, [], .nil => rfl
  | _, a :: l, .cons h hs => by
    have h1 := repV_p h
    cases h1
    rw [repVs_strs_inv hs]; rfl
theorem putStr_holds {w0 : World} {M0 : Mem} {F : Nat → Prop} {tb : Tb} {g : G} {w : World} (h : SatW w0 M0 F tb g w) {id b c : Nat} (ss : List (List UInt8)) (e : lk id tb.bx = some ⟨9, 1, (ss.map PC.str).map .p⟩) (hg : g.ob id = some (b, c)) (hc0 : 0 < c) :
    Go.Sort.Holds encStr w b 0 ss.toArray := by
  obtain ⟨cur, e2, e3, ⟨tt, fz, e4, efz⟩, e5, e6, e7, e8, e9⟩ := (h.boxes id _ e).real hg hc0
  obtain ⟨rfl, rfl⟩ := efz.low (show (9 : Nat) < frM by decide)
  simp only [List.length_map] at e7 e8
  have hi := repVs_strs_inv e8
  intro j hj
  simp only [List.size_toArray] at hj
  have hcell : cur[j]? = some (encStr ss[j]) := by
    have := congrArg (fun l => l[j]?) hi
    simp only [List.getElem?_take, List.getElem?_map, if_pos hj, Array.getElem?_toList, List.getElem?_eq_getElem hj] at this
    exact this
  refine ⟨?_, ?_⟩
  · unfold World.cell?
    simp only [e4, Nat.zero_add]
    simp [hcell, hj]
  · unfold World.frozen?
    simp [e4]
theorem view_blk {w0 : World} {M0 : Mem} {F : Nat → Prop} {tb : Tb} {g : G} {w : World} (h : SatW w0 M0 F tb g w) {id b c : Nat} {o : Ob} (e : lk id tb.bx = some o) (hg : g.ob id = some (b, c)) (hc0 : 0 < c) : b < w.heap.size := by
  obtain ⟨cur, e2, e3, ⟨tt, fz, e4, efz⟩, e5, e6, e7, e8, e9⟩ := (h.boxes id _ e).real hg hc0
  exact heap_lt e4
abbrev rowTx (l : List (List UInt8)) : Ob := ⟨9, 1, (l.map PC.str).map .p⟩
def sortS (l : List (List UInt8)) : List (List UInt8) := l.mergeSort fun x y => decide (x ≤ y)
theorem gsort77 (nx id : Nat) (ss : List (List UInt8)) (hsz : ss.length ≤ 1000000) : GenC Tryz.prog 90 [.view id 0 ss.length 1 none] ⟨[(id, rowTx ss)], [], nx⟩ (.agg true []) ⟨[(id, rowTx (sortS ss))], [], nx⟩ := by
  refine ⟨⟨_, Tryz.func90, by kernel_rfl, by kernel_rfl⟩, fun g w vs F hw hvs => ?_⟩
  cases hvs with
  | cons h hs =>
  cases hs
  cases h with
  | view hg hn hc ha hm =>
  rename_i b c a
  have hl : lk id (⟨[(id, rowTx ss)], [], nx⟩ : Tb).bx = some (rowTx ss) := by simp [lk]
  cases ha with
  | real off h0 ha ho =>
    have hoff := ho (.inr rfl)
    simp at hoff
    subst ha; subst hoff
    have hH := putStr_holds hw ss hl hg h0
    refine (Any.slices_Sort_string Tryz.l190 b 0 (c - 0) ss w hH (view_blk hw hl hg h0) (by omega)).mono ?_
    rintro e w' ⟨rfl, n, os, rfl⟩
    have hS := hw.putStr hl hg h0 rfl (show (9 : Nat) < frM by decide) (sortS ss) (by simp [sortS]; omega) n os
    have ht : (⟨[(id, rowTx ss)], [], nx⟩ : Tb).setOb id { rowTx ss with xs := ((sortS ss).map PC.str).map .p } = ⟨[(id, rowTx (sortS ss))], [], nx⟩ := by simp [Tb.setOb, del]
    rw [ht] at hS
    exact ⟨_, g, rfl, G.le_refl g, hS, .tup (vs := []) .nil⟩
  | void h0 ha =>
    have hs0 : ss = [] := List.eq_nil_of_length_eq_zero (by omega)
    subst hs0
    refine (Any.slices_Sort_string_none Tryz.l190 a (c - 0) w).mono ?_
    rintro e w' ⟨rfl, rfl⟩
    have e0 : sortS [] = [] := by simp [sortS]
    rw [e0]
    exact ⟨_, g, rfl, G.le_refl g, hw, .tup (vs := []) .nil⟩
theorem compact_len (ss : List (List UInt8)) : (Lib.compact ss).length ≤ ss.length := by
  unfold Lib.compact Lib.compactUpTo
  rw [List.length_map]
  exact Nat.le_trans (List.length_filter_le _ _) (by simp)
theorem gcompact78 (nx id : Nat) (ss : List (List UInt8)) (hsz : ss.length ≤ 1000000) : GenC Tryz.prog 91 [.view id 0 ss.length 1 none] ⟨[(id, rowTx ss)], [], nx⟩ (.view id 0 (Lib.compact ss).length 1 none)
    ⟨[(id, rowTx (Lib.compact ss ++ List.replicate (ss.length - (Lib.compact ss).length) []))], [], nx⟩ := by
  refine ⟨⟨_, Tryz.func91, by kernel_rfl, by kernel_rfl⟩, fun g w vs F hw hvs => ?_⟩
  cases hvs with
  | cons h hs =>
  cases hs
  cases h with
  | view hg hn hc ha hm =>
  rename_i b c a
  have hl : lk id (⟨[(id, rowTx ss)], [], nx⟩ : Tb).bx = some (rowTx ss) := by simp [lk]
  have hlen := compact_len ss
  cases ha with
  | real off h0 ha ho =>
    have hoff := ho (.inr rfl)
    simp at hoff
    subst ha; subst hoff
    have hH := putStr_holds hw ss hl hg h0
    refine (Any.slices_Compact_string Tryz.l194 b 0 (c - 0) ss w hH (by omega) (by omega)).mono ?_
    rintro e w' ⟨rfl, n, rfl⟩
    have hS := hw.putStr hl hg h0 rfl (show (9 : Nat) < frM by decide) (Lib.compact ss ++ List.replicate (ss.length - (Lib.compact ss).length) []) (by simp; omega) n #[]
    rw [grow_empty] at hS
    have ht : (⟨[(id, rowTx ss)], [], nx⟩ : Tb).setOb id { rowTx ss with xs := ((Lib.compact ss ++ List.replicate (ss.length - (Lib.compact ss).length) []).map PC.str).map .p } = ⟨[(id, rowTx (Lib.compact ss ++ List.replicate (ss.length - (Lib.compact ss).length) []))], [], nx⟩ := by simp [Tb.setOb, del]
    rw [ht] at hS
    exact ⟨_, g, rfl, G.le_refl g, hS, .view hg (by omega) hc (.real 0 h0 rfl (fun _ => by simp)) (fun k hk => by cases hk)⟩
  | void h0 ha =>
    have hs0 : ss = [] := List.eq_nil_of_length_eq_zero (by omega)
    subst hs0
    refine (Any.slices_Compact_string_empty Tryz.l194 a (c - 0) w).mono ?_
    rintro e w' ⟨rfl, rfl⟩
    exact ⟨_, g, rfl, G.le_refl g, hw, .view hg (by simpa using hn) hc (.void h0 ha) (fun k hk => by cases hk)⟩
/-- a slot that holds no list: a row without room -/
theorem le_voidS {nx0 : Nat} {st : AS} (t : Nat) (el : TypeId) (s : Nat) (h : isNone (st.sl t)) : st.le nx0 ⟨upd st.sl t (.view st.tb.nx 0 0 s none), st.tb.addOb ⟨el, s, []⟩⟩ := by
  rintro fr a w hf ⟨g, h0, h1, h2, h3, h4⟩
  obtain ⟨ad, hv, hva⟩ : ∃ ad, a.tmps.getD t undef = .slice ad 0 0 ∧ (ad = none ∨ ∃ a', ad = some a') := by
    have := h2 t
    generalize a.tmps.getD t undef = v at this ⊢
    unfold isNone at h
    split at h
    · rename_i e; rw [e] at this
      cases this with
      | full hr => cases hr with
        | nilsl => exact ⟨none, rfl, .inl rfl⟩
        | sl0 a => exact ⟨_, rfl, .inr ⟨_, rfl⟩⟩
        | sl hn _ _ _ _ _ _ hs => have := hs.length; simp at this; rw [this] at hn; simp at hn; subst hn; exact ⟨_, rfl, .inr ⟨_, rfl⟩⟩
    · rename_i e; rw [e] at this
      have := repV_p this
      cases this; exact ⟨none, rfl, .inl rfl⟩
    · exact h.elim
  refine ⟨_, h0.trans (h1.leOb 0 0), h1.voidOb el s, fun u => ?_, h3, h4⟩
  simp only [upd]
  split
  · rename_i e; subst e; rw [hv]
    have := RepV.view (g := g.obAt st.tb.nx 0 0) (id := st.tb.nx) (b := 0) (c := 0) (o := 0) (n := 0) (s := s) (a := ad) (m := none) (by simp [G.obAt]) (by omega) (by unfold maxLen; omega) (.void rfl hva) (by simp)
    simpa using this
  · exact (h2 u).mono (h1.leOb 0 0)

def okP (p : List UInt8) : Bool := !(p == [42]) && tkB p
/-- the names that pieces tell, as they come -/
def namesF (ps : List (List UInt8)) : Option (List (List UInt8)) := if ps.all okP = true then some (ps.map lowB) else none
def varyN (vs : List (List UInt8)) : Option (List (List UInt8)) := (namesF (splitB vs)).map fun l => Lib.compact (sortS l)
def nmZ : Option (List (List UInt8)) → List AV
  | some l => [.view 0 0 l.length 1 none, .p (.bool true)]
  | none => [.p .nil, .p (.bool false)]
def nmR : Option (List (List UInt8)) → AV
  | some l => .agg true [.view 0 0 l.length 1 none, .p (.bool true)]
  | none => .agg true [.p .nil, .p (.bool false)]
def nmT (n : Nat) : Option (List (List UInt8)) → Tb
  | some l => ⟨[(0, rowTx (l ++ List.replicate (n - l.length) []))], [], 1⟩
  | none => ⟨[], [], 0⟩
set_option maxHeartbeats 2000000 in
set_option maxRecDepth 100000 in
theorem gnames40 (vs : List (List UInt8)) (hv : vs.length ≤ 1000000) (ht : totB vs ≤ 1000000) (hl : ∀ v ∈ vs, v.length ≤ 1000000) : GenC Tryz.prog 55 [.p (.sl (vs.map PC.str))] ⟨[], [], 0⟩ (nmR (varyN vs)) (nmT (splitB vs).length (varyN vs)) := by
  have hs := split63 vs hv ht hl
  have hR := splitB_len vs
  have hp := piece_len hl
  unfold varyN
  generalize splitB vs = ps at *
  obtain ⟨R, hRe⟩ : ∃ R, R = namesF ps := ⟨_, rfl⟩
  rw [← hRe]
  refine gen_of_aw (rs := nmZ (R.map fun l => Lib.compact (sortS l))) [25] [] [] mixed Tryz.func55 rfl (by kernel_rfl) (by kernel_rfl) (by simp [Tryz.ntmps55]) (by cases R <;> rfl) ?_
  simp
  refine pcall_of hs (by simp) ?_
  simp
  refine aw_loop (fun y : Nat × List (List UInt8) => y.1 ≤ ps.length ∧ y.2 = (ps.take y.1).map lowB ∧ (ps.take y.1).all okP = true) (fun y => [(4, .view 0 0 y.2.length 1 none), (8, .p (.sl (ps.map PC.str))), (9, .p (.int ps.length)), (10, .p (.int y.1))])
    (fun y => ⟨[(0, rowTx y.2)], [], 1⟩) (fun y => ps.length - y.1) (0, []) ⟨by simp, by simp, by simp⟩ _ (le_voidS 4 9 1 (by simp [isNone])) (leN_id (by simp)) ?_
  rintro ⟨k, out⟩ ⟨h1, h2, h3⟩
  simp only at h1 h2 h3
  have hol : out.length = k := by rw [h2]; simp; omega
  by_cases ck : k < ps.length
  case neg =>
    obtain rfl : k = ps.length := by omega
    rw [List.take_length] at h2 h3
    have e : R = some out := by rw [hRe]; unfold namesF; rw [if_pos h3, ← h2]
    subst e
    simp
    refine gcall_of0 (gsort77 1 0 out (by omega)) (by simp [hol]) (by simp [sub1]) trivial rfl ?_
    simp
    have hsl : (sortS out).length = out.length := by simp [sortS]
    refine gcall_of0 (gcompact78 1 0 (sortS out) (by omega)) (by simp [hol, hsl]) (by simp [sub1]) trivial rfl ?_
    simp [Tryz.results55, nmZ, nmT]
    exact ⟨[], by simp [hsl, hol]⟩
  have hpl := hp ps[k] (List.getElem_mem ck)
  have hno : okP ps[k] = false → R = none := fun h => by
    rw [hRe]; unfold namesF
    rw [if_neg]
    intro hc
    have := List.all_eq_true.1 hc ps[k] (List.getElem_mem ck)
    rw [h] at this; cases this
  simp [ck]
  by_cases c1 : ps[k] = [42]
  · have d : (ps[k] == [42]) = true := by simpa using c1
    have e := hno (by unfold okP; rw [d]; rfl)
    subst e
    simp [d, Tryz.results55, nmZ, nmT]
  · have d : (ps[k] == [42]) = false := by simpa using c1
    simp [d]
    refine pcall_of (token52 ps[k] (by omega)) (by simp) ?_
    rw [show (decide (ps[k] ≠ []) && ps[k].all tokB) = tkB ps[k] from rfl]
    cases c2 : tkB ps[k] with
    | false =>
      have e := hno (by unfold okP; rw [c2]; simp)
      subst e
      simp [Tryz.results55, nmZ, nmT]
    | true =>
      simp
      refine pcall_of (lower76 ps[k] (by omega)) (by simp) ?_
      simp
      refine ⟨by omega, by omega, k + 1, out ++ [lowB ps[k]], ⟨by omega, ?_, ?_⟩, by omega, leN_of [(0, 1)] ?_⟩
      · rw [← List.map_take, List.take_succ_eq_append_getElem ck, List.map_append, ← h2]; rfl
      · intro x hx
        rw [List.take_succ_eq_append_getElem ck] at hx
        rcases List.mem_append.1 hx with hx | hx
        · exact List.all_eq_true.1 h3 x hx
        · simp at hx; subst hx; unfold okP; rw [c2]; simpa using c1
      · have e := List.take_of_length_le (l := out.map (AV.p ∘ PC.str)) (i := out.length) (by simp)
        simp [wrap64_id (n := (k : Int) + 1) (by omega) (by omega), e, pcCells]

theorem names40 (vs : List (List UInt8)) (hv : vs.length ≤ 1000000) (ht : totB vs ≤ 1000000) (hl : ∀ v ∈ vs, v.length ≤ 1000000) : PureC Tryz.prog 55 [.sl (vs.map PC.str)] (.tp [.sl (((varyN vs).getD []).map PC.str), .bool (varyN vs).isSome]) := by
  have h := gnames40 vs hv ht hl
  refine pure_of_gen h ?_
  generalize varyN vs = R
  cases R with
  | none => simp [nmR, nmT, borF, all2]
  | some l =>
    have e : ∀ l : List (List UInt8), (l.map PC.str).flatMap pcs = l.map PC.str := fun l => by
      induction l with
      | nil => rfl
      | cons a l ih => rw [List.map_cons, List.flatMap_cons, ih]; rfl
    simp [nmR, nmT, borF, all2, e]
end Go.Av

/-! part Z87 -/
namespace Go.Av
open Go.Proofs
set_option maxRecDepth 100000


abbrev Fd := List UInt8 × List UInt8
abbrev fdP (f : Fd) : PC := .agg false [.str f.1, .str f.2]

def FdOk (fs : List Fd) : Prop := fs.length ≤ 1000000 ∧ totB (fs.map (·.2)) ≤ 1000000 ∧ ∀ f ∈ fs, f.1.length ≤ 1000000
theorem totB_mem {vs : List (List UInt8)} {v : List UInt8} (h : v ∈ vs) : v.length ≤ totB vs := by
  induction vs with
  | nil => cases h
  | cons a vs ih =>
    rw [totB_cons]
    rcases List.mem_cons.1 h with rfl | h
    · omega
    · have := ih h; omega
def isB (n : List UInt8) (f : Fd) : Bool := lowB f.1 == lowB n
def getB (fs : List Fd) (n : List UInt8) : List (List UInt8) := (fs.filter (isB n)).map (·.2)
theorem is132 (f : Fd) (n : List UInt8) (hf : f.1.length ≤ 1000000) (hn : n.length ≤ 1000000) : PureC Tryz.prog 92 [fdP f, .str n] (.bool (isB n f)) := by
  refine pure_of_aw (ys := [_]) [] [] [] mixed Tryz.func92 rfl (by kernel_rfl) (by kernel_rfl) (by simp [Tryz.ntmps92]) rfl ?_
  obtain ⟨a, b⟩ := f
  simp only at hf
  simp [fdP, isB]
  refine pcall_of (lower76 a (by omega)) (by simp) ?_
  simp
  refine pcall_of (lower76 n (by omega)) (by simp) ?_
  simp [Tryz.results92]
theorem getB_snoc (fs : List Fd) (n : List UInt8) (f : Fd) : getB (fs ++ [f]) n = getB fs n ++ (if isB n f = true then [f.2] else []) := by
  unfold getB
  rw [List.filter_append, List.map_append]
  congr 1
  by_cases h : isB n f = true
  · rw [if_pos h, List.filter_cons_of_pos h]; rfl
  · rw [if_neg h, List.filter_cons_of_neg h]; rfl
theorem getB_len (fs : List Fd) (n : List UInt8) : (getB fs n).length ≤ fs.length := by
  unfold getB; rw [List.length_map]; exact List.length_filter_le _ _
theorem getB_tot (fs : List Fd) (n : List UInt8) : totB (getB fs n) ≤ totB (fs.map (·.2)) := by
  induction fs with
  | nil => simp [getB, totB]
  | cons f fs ih =>
    rw [List.map_cons, totB_cons]
    unfold getB at ih ⊢
    by_cases h : isB n f = true
    · rw [List.filter_cons_of_pos h, List.map_cons, totB_cons]; omega
    · rw [List.filter_cons_of_neg h]; omega
set_option maxHeartbeats 1000000 in
set_option maxRecDepth 100000 in
theorem get107 (fs : List Fd) (n : List UInt8) (hf : FdOk fs) (hn : n.length ≤ 1000000) : PureC Tryz.prog 56 [.sl (fs.map fdP), .str n] (.sl ((getB fs n).map PC.str)) := by
  obtain ⟨hf1, hf2, hf3⟩ := hf
  refine pure_of_aw (ys := [_]) [] [] [] mixed Tryz.func56 rfl (by kernel_rfl) (by kernel_rfl) (by simp [Tryz.ntmps56]) rfl ?_
  simp
  refine aw_loop (fun y : Nat × List (List UInt8) => y.1 ≤ fs.length ∧ y.2 = getB (fs.take y.1) n) (fun y => [(1, .p (.str n)), (5, .own 0 (y.2.map PC.str)), (8, .p (.sl (fs.map fdP))), (9, .p (.int fs.length)), (10, .p (.int y.1))])
    (fun y => ⟨[], [(0, 9, 1)], 1⟩) (fun y => fs.length - y.1) (0, []) ⟨by simp, by simp [getB]⟩ _ (le_own 5 9 1 [] (.inr ⟨rfl, by simp⟩)) (leN_id (by simp)) ?_
  rintro ⟨k, out⟩ ⟨h1, h2⟩
  simp only at h1 h2
  have hol : out.length ≤ k := by rw [h2]; exact Nat.le_trans (getB_len _ _) (by simp; omega)
  by_cases ck : k < fs.length
  case neg =>
    obtain rfl : k = fs.length := by omega
    rw [List.take_length] at h2
    subst h2
    simp [Tryz.results56]
  have hst : getB (fs.take (k + 1)) n = out ++ (if isB n fs[k] = true then [fs[k].2] else []) := by
    rw [List.take_succ_eq_append_getElem ck, getB_snoc, ← h2]
  have hfl := hf3 fs[k] (List.getElem_mem ck)
  simp [ck]
  obtain ⟨f, hfe⟩ : ∃ f, f = fs[k] := ⟨_, rfl⟩
  rw [← hfe] at hst hfl ⊢
  have his := is132 f n hfl hn
  obtain ⟨a, b⟩ := f
  simp only [fdP] at his
  simp
  refine pcall_of his (by simp) ?_
  cases hb : isB n (a, b) with
  | false =>
    rw [hb, if_neg (by simp), List.append_nil] at hst
    simp
    refine ⟨k + 1, out, ⟨by omega, hst.symm⟩, by omega, leN_id ?_⟩
    simp [wrap64_id (n := (k : Int) + 1) (by omega) (by omega)]
  | true =>
    rw [hb, if_pos rfl] at hst
    simp
    refine ⟨by omega, by omega, k + 1, out ++ [b], ⟨by omega, hst.symm⟩, by omega, leN_of [(0, 2)] ?_⟩
    simp [wrap64_id (n := (k : Int) + 1) (by omega) (by omega)]
set_option maxHeartbeats 1000000 in
set_option maxRecDepth 100000 in
theorem rget108 (fs : List Fd) (n : List UInt8) (hf : FdOk fs) (hn : n.length ≤ 1000000) : PureC Tryz.prog 39 [.sl (fs.map fdP), .str n] (.sl ((getB fs n).map PC.str)) := by
  obtain ⟨hf1, hf2, hf3⟩ := hf
  refine pure_of_aw (ys := [_]) [] [] [] mixed Tryz.func39 rfl (by kernel_rfl) (by kernel_rfl) (by simp [Tryz.ntmps39]) rfl ?_
  simp
  refine aw_loop (fun y : Nat × List (List UInt8) => y.1 ≤ fs.length ∧ y.2 = getB (fs.take y.1) n) (fun y => [(0, .p (.sl (fs.map fdP))), (1, .p (.str n)), (5, .own 0 (y.2.map PC.str)), (6, .p (.int y.1))])
    (fun y => ⟨[], [(0, 9, 1)], 1⟩) (fun y => fs.length - y.1) (0, []) ⟨by simp, by simp [getB]⟩ _ (le_own 5 9 1 [] (.inr ⟨rfl, by simp⟩)) (leN_id (by simp)) ?_
  rintro ⟨k, out⟩ ⟨h1, h2⟩
  simp only at h1 h2
  have hol : out.length ≤ k := by rw [h2]; exact Nat.le_trans (getB_len _ _) (by simp; omega)
  by_cases ck : k < fs.length
  case neg =>
    obtain rfl : k = fs.length := by omega
    rw [List.take_length] at h2
    subst h2
    simp [Tryz.results39]
  have hst : getB (fs.take (k + 1)) n = out ++ (if isB n fs[k] = true then [fs[k].2] else []) := by
    rw [List.take_succ_eq_append_getElem ck, getB_snoc, ← h2]
  have hfl := hf3 fs[k] (List.getElem_mem ck)
  simp [ck]
  refine pcall_of (rlower32 fs[k].1 hfl) (by simp) ?_
  simp
  refine pcall_of (rlower32 n hn) (by simp) ?_
  cases hb : isB n fs[k] with
  | false =>
    rw [hb, if_neg (by simp), List.append_nil] at hst
    unfold isB at hb
    simp [hb]
    refine ⟨k + 1, out, ⟨by omega, hst.symm⟩, by omega, leN_id ?_⟩
    simp [wrap64_id (n := (k : Int) + 1) (by omega) (by omega)]
  | true =>
    rw [hb, if_pos rfl] at hst
    unfold isB at hb
    simp [hb, ck]
    refine ⟨by omega, by omega, k + 1, out ++ [fs[k].2], ⟨by omega, hst.symm⟩, by omega, leN_of [(0, 1)] ?_⟩
    simp [wrap64_id (n := (k : Int) + 1) (by omega) (by omega)]
end Go.Av

/-! part Z88 -/
namespace Go.Av
open Go.Proofs
set_option maxRecDepth 100000

theorem stepC_len {c : Ctl} (h7 : c.1.length = 7) (h4 : c.2.length = 4) (p : List UInt8) : (stepC c p).1.length = 7 ∧ (stepC c p).2.length = 4 := by
  unfold stepC
  simp only
  split
  · exact ⟨h7, h4⟩
  · split
    · exact ⟨by simpa using h7, h4⟩
    · split
      · split
        · exact ⟨h7, by simpa using h4⟩
        · exact ⟨h7, h4⟩
      · exact ⟨h7, h4⟩
theorem foldC_len (l : List (List UInt8)) : ∀ (c : Ctl), c.1.length = 7 → c.2.length = 4 → (l.foldl stepC c).1.length = 7 ∧ (l.foldl stepC c).2.length = 4 := by
  induction l with
  | nil => intro c h7 h4; exact ⟨h7, h4⟩
  | cons p l ih => intro c h7 h4; have := stepC_len h7 h4 p; exact ih _ this.1 this.2
theorem parseB_len (vs : List (List UInt8)) : (parseB vs).1.length = 7 ∧ (parseB vs).2.length = 4 := foldC_len _ _ rfl rfl
theorem ctl_ex {c : Ctl} (h7 : c.1.length = 7) (h4 : c.2.length = 4) : ∃ b0 b1 b2 b3 b4 b5 b6 i0 i1 i2 i3, c = ([b0, b1, b2, b3, b4, b5, b6], [i0, i1, i2, i3]) := by
  obtain ⟨bs, is⟩ := c
  simp only at h7 h4
  match bs, h7 with
  | [b0, b1, b2, b3, b4, b5, b6], _ =>
  match is, h4 with
  | [i0, i1, i2, i3], _ => exact ⟨_, _, _, _, _, _, _, _, _, _, _, rfl⟩
def shortB (fs : List Fd) : Bool := decide (fs.length ≤ 30) && fs.all fun f => decide (f.1.length ≤ 300) && decide (f.2.length ≤ 500)

theorem short_ok {fs : List Fd} (h : shortB fs = true) : fs.length ≤ 30 ∧ totB (fs.map (·.2)) ≤ 15000 ∧ ∀ f ∈ fs, f.1.length ≤ 300 ∧ f.2.length ≤ 500 := by
  unfold shortB at h
  simp only [Bool.and_eq_true, decide_eq_true_eq, List.all_eq_true] at h
  obtain ⟨h1, h2⟩ := h
  refine ⟨h1, ?_, h2⟩
  have : ∀ l : List Fd, (∀ f ∈ l, f.1.length ≤ 300 ∧ f.2.length ≤ 500) → totB (l.map (·.2)) ≤ l.length * 500 := by
    intro l; induction l with
    | nil => intro _; simp [totB]
    | cons a l ih => intro h; rw [List.map_cons, totB_cons, List.length_cons]; have := ih fun v hv => h v (by simp [hv]); have := (h a (by simp)).2; omega
  have := this fs h2
  omega
theorem numB_nn (m : Nat) (l : List UInt8) : 0 ≤ (numB m l).1 := by
  unfold numB; split
  · simp
  · split <;> simp
theorem numD_nn (a : List UInt8) (has : Bool) {wo : Int} (h : 0 ≤ wo) : 0 ≤ numD a has wo := by
  unfold numD; split
  · exact h
  · split
    · simp
    · exact numB_nn _ _
def IntsOk (c : Ctl) : Prop := ∀ i ∈ c.2, -1 ≤ i ∧ i ≤ 2147483647
theorem numB_le {m : Nat} {l : List UInt8} (hm : 9 ≤ m) : (numB m l).1 ≤ m := by
  unfold numB; split
  · simp
  · rename_i h
    split
    · simp
    · have := numF_le (most := m) (l := l) (by simpa using fun e => h (.inr e)) hm
      simp only; omega
theorem numD_le (a : List UInt8) (has : Bool) {wo : Int} (h : wo ≤ 2147483647) : numD a has wo ≤ 2147483647 := by
  unfold numD; split
  · exact h
  · split
    · simp
    · exact numB_le (m := MD) (by decide)
theorem stepC_ints {c : Ctl} (h7 : c.1.length = 7) (h4 : c.2.length = 4) (h : IntsOk c) (p : List UInt8) : IntsOk (stepC c p) := by
  rw [stepC_eq]
  split
  · exact h
  · obtain ⟨b0, b1, b2, b3, b4, b5, b6, i0, i1, i2, i3, rfl⟩ := ctl_ex h7 h4
    have v1 := numD_nn (readB p).2.1 (readB p).2.2.1 (wo := if (readB p).1 = nm9 then 2147483647 else 0) (by split <;> omega)
    have v2 := numD_le (readB p).2.1 (readB p).2.2.1 (wo := if (readB p).1 = nm9 then 2147483647 else 0) (by split <;> omega)
    rw [stepN_eq]
    generalize numD (readB p).2.1 (readB p).2.2.1 (if (readB p).1 = nm9 then 2147483647 else 0) = v at *
    intro i hi
    have z0 := h i0 (by simp)
    have z1 := h i1 (by simp)
    have z2 := h i2 (by simp)
    have z3 := h i3 (by simp)
    simp only [List.mem_cons, List.not_mem_nil, or_false] at hi
    rcases hi with rfl | rfl | rfl | rfl <;> split <;> first | assumption | (constructor <;> omega)
theorem fold_ints : ∀ (L : List (List UInt8)) (c : Ctl), c.1.length = 7 → c.2.length = 4 → IntsOk c → IntsOk (L.foldl stepC c)
  | [], _, _, _, h => h
  | p :: L, c, h7, h4, h => by
    have := stepC_len h7 h4 p
    exact fold_ints L _ this.1 this.2 (stepC_ints h7 h4 h p)
theorem ctl0_ints : IntsOk ctl0 := by
  intro i hi
  have : i = -1 := by simpa [ctl0] using hi
  subst this; decide
theorem parse_ints (vs : List (List UInt8)) : IntsOk (parseB vs) := fold_ints _ _ rfl rfl ctl0_ints

end Go.Av
