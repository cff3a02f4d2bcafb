/- A policy as an argument: read into plain data, its sizes out of what is asked of every argument. -/
import Derived.Test.YtghlodpbbghcoaaGreatDoorFrame
import Derived.Test.YtghlodpbbghcoaaGreatDoorZH
import Derived.Deep.Fields
import Derived.Test.YtghlodpbbghcoaaGreatDoorEA
import Derived.Lib.LaidTab
import Derived.Lib.LaidIn
namespace Go.Proofs.YtghlodpbbghcoaaGreatDoor
open Go.ChangeShapes Go.WideShapes Go.ChangeAt Go.RowKit Go.Lib Go.Deep
section
variable {H : Type} {enc : TypeId × Value → H}
theorem mem_all {P : Program} {e : TypeId} {l : List (DataW H)} {d : DataW H} {m : Nat} (hd : d ∈ l) (hm : m ∈ d.weights P e) : m ∈ DataW.weightsAll P e l := by
  induction l with
  | nil => simp at hd
  | cons x l ih =>
    rw [DataW.weightsAll]
    rcases List.mem_cons.1 hd with rfl | hd
    · exact List.mem_append_left _ hm
    · exact List.mem_append_right _ (ih hd)
theorem map_of_all {α β : Type} {f : α → β} {G : α → Prop} : ∀ {cs : List β}, (∀ c ∈ cs, ∃ a, f a = c ∧ G a) → ∃ l : List α, l.map f = cs ∧ ∀ a ∈ l, G a
  | [], _ => ⟨[], rfl, fun a ha => absurd ha (by simp)⟩
  | c :: cs, h => by
    obtain ⟨a, ha, hg⟩ := h c List.mem_cons_self
    obtain ⟨l, hl, hgl⟩ := map_of_all (f := f) (G := G) (fun c hc => h c (List.mem_cons_of_mem _ hc))
    refine ⟨a :: l, by rw [List.map_cons, ha, hl], fun x hx => ?_⟩
    rcases List.mem_cons.1 hx with rfl | hx
    · exact hg
    · exact hgl x hx
theorem add_at' (b o j : Nat) : (⟨b, o, none⟩ : Addr).add j = ⟨b, o + j, none⟩ := by unfold Addr.add; split <;> simp_all
theorem spot_none' {w : World} {a : Addr} {v : Value} (h : w.cell? (a.add 0) = some v) : a = ⟨a.block, a.off, none⟩ ∧ a.block < w.heap.size := by
  obtain ⟨b, o, spot⟩ := a
  simp only [Addr.add, if_true] at h
  refine ⟨?_, ?_⟩
  · cases spot with
    | none => rfl
    | some x =>
      exfalso
      simp only [World.cell?] at h
      split at h <;> simp at h
  · rcases Nat.lt_or_ge b w.heap.size with h' | h'
    · exact h'
    · simp [World.cell?, Array.getElem?_eq_none h'] at h
/-- A slice as an argument: its elements' cells, and how each is read. -/
theorem open_row {W : World} {fuel : Nat} {t e : TypeId} {m : Nat} {v : Value} {x : DataW H × List MemPlace} (ht : Tryz.prog.underlying t = some (.slice e)) (hm : Tryz.prog.cellsOf e = m) (hm0 : 0 < m)
    (h : DataW.trod enc Tryz.prog W 0 (fun _ => true) true fuel t [v] = some x) :
    ∃ (cs : List (List Value)) (n : Nat), CRow W (fun k => k < W.heap.size) m v cs ∧ (cs = [] ∨ ∃ (ys : List (DataW H)) (rest : List (DataW H)), x.1 = .slice ys rest ∧ ys.length = cs.length ∧
      ∀ c ∈ cs, c.length = m ∧ ∃ y, y.1 ∈ ys ∧ DataW.trod enc Tryz.prog W 0 (fun _ => true) true n e c = some y) := by
  rcases DataW.trod_slice ht h with ⟨hcs, _⟩ | ⟨a, len, cap, elems, rest, n, _, hcs, hx, _, hl, _, hlen, hel, _, _⟩
  · simp only [List.cons.injEq, and_true] at hcs
    subst hcs
    exact ⟨[], 0, CRow.nil _ _ _, .inl rfl⟩
  · simp only [List.cons.injEq, and_true] at hcs
    subst hcs
    rw [hm] at hel
    have key : ∀ i, ∃ c : List Value, i < len → c.length = m ∧ (∃ y, y.1 ∈ elems.map (·.1) ∧ DataW.trod enc Tryz.prog W 0 (fun _ => true) true n e c = some y) ∧ ∃ b o, a = ⟨b, o, none⟩ ∧ b < W.heap.size ∧ ∀ j, j < m → W.cell? ⟨b, o + i * m + j, none⟩ = c[j]? := by
      intro i
      by_cases hi : i < len
      · have hi0 : 0 < len := by omega
        have hy0 : elems[0]? = some (elems[0]'(by omega)) := List.getElem?_eq_getElem (by omega)
        obtain ⟨c0, hc0, _⟩ := Option.bind_eq_some_iff.1 ((hel 0 hi0).trans hy0)
        obtain ⟨_, hcl0, hat0⟩ := World.cells?_some hc0
        have h00 := hat0 0 hm0
        rw [Nat.zero_mul, show (a.add 0).add 0 = a.add 0 by simp [Addr.add], List.getElem?_eq_getElem (by omega)] at h00
        obtain ⟨ha, hab⟩ := spot_none' h00
        have hyi : elems[i]? = some (elems[i]'(by omega)) := List.getElem?_eq_getElem (by omega)
        obtain ⟨c, hc, ht'⟩ := Option.bind_eq_some_iff.1 ((hel i hi).trans hyi)
        obtain ⟨_, hcl, hat⟩ := World.cells?_some hc
        refine ⟨c, fun _ => ⟨hcl, ⟨_, List.mem_map.2 ⟨_, List.getElem_mem (by omega), rfl⟩, ht'⟩, _, _, ha, hab, fun j hj => ?_⟩⟩
        have := hat j hj
        rw [ha, add_at', add_at'] at this
        exact this
      · exact ⟨[], fun h => absurd h hi⟩
    obtain ⟨p, hp⟩ := Classical.axiomOfChoice key
    have hll : ((List.range len).map p).length = len := by simp
    refine ⟨(List.range len).map p, n, ⟨some a, cap, by rw [hll], by rw [hll]; exact hl, fun j hj => ?_⟩, .inr ⟨elems.map (·.1), rest.map (·.1), by rw [hx], by simp [hlen], fun c hc => ?_⟩⟩
    · rw [hll] at hj
      obtain ⟨_, _, b, o, ha, hb, h1⟩ := hp j hj
      refine ⟨b, o, by rw [ha], hb, fun i hi => ?_⟩
      rw [h1 i hi]
      simp
    · obtain ⟨j, hj, rfl⟩ := List.mem_map.1 hc
      obtain ⟨h1, h2, _⟩ := hp j (List.mem_range.1 hj)
      exact ⟨h1, h2⟩
theorem CRow.len_le {w : World} {P : Nat → Prop} {size : Nat} {v : Value} {cs : List (List Value)} (h : CRow w P size v cs) : ∃ A cap, v = .slice A cs.length cap := by
  obtain ⟨A, cap, e, _⟩ := h
  exact ⟨A, cap, e⟩
abbrev R47 : Nat := 140737488355328
def SmallW (t : TypeId) (d : DataW H) : Prop := ∀ m ∈ d.weights Tryz.prog t, m ≤ R47
theorem SmallW.len {t e B : Nat} {ys rest : List (DataW H)} (ht : Tryz.prog.underlying t = some (.slice e)) (hbe : Tryz.prog.bytesOf e = B) (hB : 0 < B) (h : SmallW t (.slice ys rest)) : ys.length ≤ R47 := by
  have hb : 0 < Tryz.prog.bytesOf e := by rw [hbe]; exact hB
  have := h ((ys.length + rest.length) * Tryz.prog.bytesOf e) (by rw [DataW.weights, ht]; exact List.mem_cons_self)
  have h2 : ys.length * 1 ≤ (ys.length + rest.length) * Tryz.prog.bytesOf e := Nat.mul_le_mul (Nat.le_add_right _ _) hb
  omega
theorem SmallW.elem {t e : TypeId} {ys rest : List (DataW H)} {y : DataW H} (ht : Tryz.prog.underlying t = some (.slice e)) (h : SmallW t (.slice ys rest)) (hy : y ∈ ys) : SmallW e y := by
  intro m hm
  refine h m ?_
  rw [DataW.weights, ht]
  exact List.mem_cons_of_mem _ (List.mem_append_left _ (mem_all hy hm))
theorem open_strs {W : World} {fuel : Nat} {v : Value} {x : DataW H × List MemPlace} (h : DataW.trod enc Tryz.prog W 0 (fun _ => true) true fuel 22 [v] = some x) (hs : SmallW 22 x.1) :
    ∃ l : List ByteArray, StrsAt W (fun k => k < W.heap.size) v l ∧ l.length ≤ R47 ∧ ∀ s ∈ l, s.size ≤ R47 := by
  obtain ⟨cs, n, hr, hc⟩ := open_row (m := 1) Tryz.underlying22 (by kernel_rfl) (by decide) h
  rcases hc with rfl | ⟨ys, rest, hx, hyl, hc⟩
  · exact ⟨[], hr, Nat.zero_le _, fun s hs => absurd hs (by simp)⟩
  · rw [hx] at hs
    obtain ⟨l, hl, hG⟩ := map_of_all (f := fun s : ByteArray => [Value.string s]) (G := fun s => s.size ≤ R47) (cs := cs) (by
      intro c hcm
      obtain ⟨_, y, hy, ht⟩ := hc c hcm
      obtain ⟨s, rfl, rfl, _⟩ := DataW.trod_string Tryz.underlying9 ht
      refine ⟨s, rfl, ?_⟩
      have := hs.elem Tryz.underlying22 hy s.data.toList.length (by rw [DataW.weights]; simp)
      simpa using this)
    subst hl
    refine ⟨l, hr, ?_, hG⟩
    have := hs.len Tryz.underlying22 (B := 16) (by kernel_rfl) (by decide)
    rw [hyl, List.length_map] at this
    exact this
/-- A field's reading is as small as its struct's. -/
theorem weightsEach_mem {P : Program} : ∀ {ts : List TypeId} {ds : List (DataW H)} {i : Nat} {t : TypeId} {d : DataW H} {m : Nat}, ts[i]? = some t → ds[i]? = some d → m ∈ d.weights P t → m ∈ DataW.weightsEach P ts ds
  | [], _, i, t, d, m, h, _, _ => by simp at h
  | _ :: _, [], i, t, d, m, _, h, _ => by simp at h
  | t :: ts, d :: ds, 0, t', d', m, h1, h2, h3 => by
    simp only [List.getElem?_cons_zero, Option.some.injEq] at h1 h2
    subst h1 h2
    rw [DataW.weightsEach]
    exact List.mem_append_left _ h3
  | t :: ts, d :: ds, i + 1, t', d', m, h1, h2, h3 => by
    simp only [List.getElem?_cons_succ] at h1 h2
    rw [DataW.weightsEach]
    exact List.mem_append_right _ (weightsEach_mem h1 h2 h3)
/-- A struct's field, read. -/
theorem open_field {W : World} {fuel : Nat} {t : TypeId} {fs : Array Field} {cs : List Value} {x : DataW H × List MemPlace} (ht : Tryz.prog.underlying t = some (.struct fs)) (h : DataW.trod enc Tryz.prog W 0 (fun _ => true) true fuel t cs = some x) (hs : SmallW t x.1)
    (i : Nat) {f : Field} (t' o k : Nat) (hf : fs[i]? = some f) (hty : f.type = t') (hoff : f.offset = o) (hk : Tryz.prog.cellsOf t' = k) : ∃ n y, DataW.trod enc Tryz.prog W 0 (fun _ => true) true n t' ((cs.drop o).take k) = some y ∧ SmallW t' y.1 := by
  subst hty hoff hk
  obtain ⟨xs, n, _, hx, _, hlen, hat⟩ := DataW.trod_struct ht h
  have hil : i < fs.size := (Array.getElem?_eq_some_iff.1 hf).1
  have hxi : xs[i]? = some (xs[i]'(by omega)) := List.getElem?_eq_getElem (by omega)
  refine ⟨n, _, (hat i f hf).trans hxi, fun m hm => ?_⟩
  rw [hx] at hs
  refine hs m ?_
  rw [DataW.weights, ht]
  refine weightsEach_mem (i := i) (t := f.type) (d := (xs[i]'(by omega)).1) ?_ ?_ hm
  · rw [List.getElem?_map, Array.getElem?_toList, hf]; rfl
  · rw [List.getElem?_map, hxi]; rfl
theorem list5 {c : List Value} (h : c.length = 5) : ∃ a b d e f, c = [a, b, d, e, f] := by
  match c, h with
  | [a, b, d, e, f], _ => exact ⟨a, b, d, e, f, rfl⟩
theorem list3 {c : List Value} (h : c.length = 3) : ∃ a b d, c = [a, b, d] := by
  match c, h with
  | [a, b, d], _ => exact ⟨a, b, d, rfl⟩
theorem arr3 {cs : Array Value} (h : cs.size = 3) : ∃ a b d, cs = #[a, b, d] := by
  obtain ⟨l⟩ := cs
  obtain ⟨a, b, d, rfl⟩ := list3 h
  exact ⟨a, b, d, rfl⟩
theorem c9 : Tryz.prog.cellsOf 9 = 1 := by kernel_rfl
theorem c4 : Tryz.prog.cellsOf 4 = 1 := by kernel_rfl
theorem c3 : Tryz.prog.cellsOf 3 = 1 := by kernel_rfl
theorem c22 : Tryz.prog.cellsOf 22 = 1 := by kernel_rfl
theorem c23 : Tryz.prog.cellsOf 23 = 1 := by kernel_rfl
theorem c28 : Tryz.prog.cellsOf 28 = 1 := by kernel_rfl
theorem c32 : Tryz.prog.cellsOf 32 = 3 := by kernel_rfl
theorem open_rule {W : World} {n : Nat} {c : List Value} {y : DataW H × List MemPlace} (hc : c.length = 5) (ht : DataW.trod enc Tryz.prog W 0 (fun _ => true) true n 34 c = some y) (hs : SmallW 34 y.1) :
    ∃ r : RulC, r.list = c ∧ StrsAt W (fun k => k < W.heap.size) r.vw r.words ∧ r.rul.In := by
  obtain ⟨v0, v1, v2, v3, v4, rfl⟩ := list5 hc
  obtain ⟨_, y0, t0, s0⟩ := open_field Tryz.underlying34 ht hs 0 9 0 1 rfl rfl rfl c9
  obtain ⟨_, y1, t1, s1⟩ := open_field Tryz.underlying34 ht hs 1 32 1 3 rfl rfl rfl c32
  obtain ⟨_, y2, t2, s2⟩ := open_field Tryz.underlying34 ht hs 2 4 4 1 rfl rfl rfl c4
  obtain ⟨_, y3, t3, s3⟩ := open_field Tryz.underlying32 t1 s1 0 3 0 1 rfl rfl rfl c3
  obtain ⟨_, y4, t4, s4⟩ := open_field Tryz.underlying32 t1 s1 1 22 1 1 rfl rfl rfl c22
  obtain ⟨_, y5, t5, s5⟩ := open_field Tryz.underlying32 t1 s1 2 9 2 1 rfl rfl rfl c9
  obtain ⟨nm, e0, hx0, _⟩ := DataW.trod_string Tryz.underlying9 t0
  obtain ⟨k, e3, _, hk⟩ := DataW.trod_int Tryz.underlying3 t3
  obtain ⟨ws, hws, hwl, hwz⟩ := open_strs t4 s4
  obtain ⟨rx, e5, hx5, _⟩ := DataW.trod_string Tryz.underlying9 t5
  obtain ⟨q, e2, _⟩ := DataW.trod_bool Tryz.underlying4 t2
  simp only [List.drop_zero, List.drop_succ_cons, List.take_succ_cons, List.take_zero, List.cons.injEq, and_true] at e0 e3 e5 e2
  subst e0 e3 e5 e2
  have z0 : nm.size ≤ R47 := by
    have := s0 nm.data.toList.length (by rw [hx0, DataW.weights]; simp)
    simpa using this
  have z5 : rx.size ≤ R47 := by
    have := s5 rx.data.toList.length (by rw [hx5, DataW.weights]; simp)
    simpa using this
  have hk2 : -9223372036854775808 ≤ k ∧ k ≤ 9223372036854775807 := by
    simpa [Lit.wf, IntKind.min, IntKind.max, IntKind.signed, IntKind.bits] using hk
  exact ⟨⟨nm, k, v2, ws, rx, q⟩, rfl, hws, ⟨z0, hwl, hwz⟩, z5, hk2.1, hk2.2⟩
theorem open_rules {W : World} {fuel : Nat} {v : Value} {x : DataW H × List MemPlace} (h : DataW.trod enc Tryz.prog W 0 (fun _ => true) true fuel 28 [v] = some x) (hs : SmallW 28 x.1) :
    ∃ l : List Rul, RulsAt W (fun k => k < W.heap.size) v l ∧ l.length ≤ R47 ∧ ∀ r ∈ l, r.In := by
  obtain ⟨cs, n, hr, hc⟩ := open_row (m := 5) Tryz.underlying28 (by kernel_rfl) (by decide) h
  rcases hc with rfl | ⟨ys, rest, hx, hyl, hc⟩
  · exact ⟨[], ⟨[], rfl, fun s hs => absurd hs (by simp), hr⟩, Nat.zero_le _, fun s hs => absurd hs (by simp)⟩
  · rw [hx] at hs
    obtain ⟨l, hl, hG⟩ := map_of_all (f := RulC.list) (G := fun r => StrsAt W (fun k => k < W.heap.size) r.vw r.words ∧ r.rul.In) (cs := cs) (by
      intro c hcm
      obtain ⟨hcl, y, hy, ht⟩ := hc c hcm
      exact open_rule hcl ht (hs.elem Tryz.underlying28 hy))
    subst hl
    refine ⟨l.map RulC.rul, ⟨l, rfl, fun c hc => (hG c hc).1, hr⟩, ?_, fun r hr => ?_⟩
    · have := hs.len Tryz.underlying28 (B := 72) (by kernel_rfl) (by decide)
      rw [hyl, List.length_map] at this
      rw [List.length_map]
      exact this
    · obtain ⟨c, hc, rfl⟩ := List.mem_map.1 hr
      exact (hG c hc).2
def Elt.In (e : Elt) : Prop := e.name.size ≤ 140737488355328 ∧ e.kids.length ≤ 140737488355328 ∧ (∀ s ∈ e.kids, s.size ≤ 140737488355328) ∧ e.rules.length ≤ 140737488355328 ∧ ∀ r ∈ e.rules, r.In
theorem open_elt {W : World} {n : Nat} {c : List Value} {y : DataW H × List MemPlace} (hc : c.length = 3) (ht : DataW.trod enc Tryz.prog W 0 (fun _ => true) true n 30 c = some y) (hs : SmallW 30 y.1) :
    ∃ r : EltC, r.list = c ∧ r.Fine W (fun k => k < W.heap.size) ∧ r.elt.In := by
  obtain ⟨v0, v1, v2, rfl⟩ := list3 hc
  obtain ⟨_, y0, t0, s0⟩ := open_field Tryz.underlying30 ht hs 0 9 0 1 rfl rfl rfl c9
  obtain ⟨_, y1, t1, s1⟩ := open_field Tryz.underlying30 ht hs 1 22 1 1 rfl rfl rfl c22
  obtain ⟨_, y2, t2, s2⟩ := open_field Tryz.underlying30 ht hs 2 28 2 1 rfl rfl rfl c28
  obtain ⟨nm, e0, hx0, _⟩ := DataW.trod_string Tryz.underlying9 t0
  obtain ⟨ks, hks, hkl, hkz⟩ := open_strs t1 s1
  obtain ⟨rs, hrs, hrl, hrz⟩ := open_rules t2 s2
  simp only [List.drop_zero, List.take_succ_cons, List.take_zero, List.cons.injEq, and_true] at e0
  subst e0
  have z0 : nm.size ≤ R47 := by
    have := s0 nm.data.toList.length (by rw [hx0, DataW.weights]; simp)
    simpa using this
  exact ⟨⟨nm, v1, ks, v2, rs⟩, rfl, ⟨hks, hrs⟩, z0, hkl, hkz, hrl, hrz⟩
theorem open_elts {W : World} {fuel : Nat} {v : Value} {x : DataW H × List MemPlace} (h : DataW.trod enc Tryz.prog W 0 (fun _ => true) true fuel 23 [v] = some x) (hs : SmallW 23 x.1) :
    ∃ l : List Elt, EltsAt W (fun k => k < W.heap.size) v l ∧ l.length ≤ R47 ∧ ∀ r ∈ l, r.In := by
  obtain ⟨cs, n, hr, hc⟩ := open_row (m := 3) Tryz.underlying23 (by kernel_rfl) (by decide) h
  rcases hc with rfl | ⟨ys, rest, hx, hyl, hc⟩
  · exact ⟨[], ⟨[], rfl, fun s hs => absurd hs (by simp), hr⟩, Nat.zero_le _, fun s hs => absurd hs (by simp)⟩
  · rw [hx] at hs
    obtain ⟨l, hl, hG⟩ := map_of_all (f := EltC.list) (G := fun r => r.Fine W (fun k => k < W.heap.size) ∧ r.elt.In) (cs := cs) (by
      intro c hcm
      obtain ⟨hcl, y, hy, ht⟩ := hc c hcm
      exact open_elt hcl ht (hs.elem Tryz.underlying23 hy))
    subst hl
    refine ⟨l.map EltC.elt, ⟨l, rfl, fun c hc => (hG c hc).1, hr⟩, ?_, fun r hr => ?_⟩
    · have := hs.len Tryz.underlying23 (B := 64) (by kernel_rfl) (by decide)
      rw [hyl, List.length_map] at this
      rw [List.length_map]
      exact this
    · obtain ⟨c, hc, rfl⟩ := List.mem_map.1 hr
      exact (hG c hc).2
/-- A policy handed in, read. -/
theorem open_pol {W : World} {v : Value} {d : DataW H} {ps : List MemPlace} (h : DataW.Trod enc Tryz.prog W 0 (fun _ => true) true 25 v d ps) (hs : SmallW 25 d) (hv : ∃ a b c, v = .agg #[a, b, c]) :
    ∃ (vt ve vu : Value) (p : Pol), v = .agg #[vt, ve, vu] ∧ PolAt W (fun k => k < W.heap.size) vt ve vu p ∧ p.In := by
  obtain ⟨a, b, c, rfl⟩ := hv
  obtain ⟨fuel, hf⟩ := h
  have hf' : DataW.trod enc Tryz.prog W 0 (fun _ => true) true fuel 25 [a, b, c] = some (d, ps) := hf
  obtain ⟨_, y0, t0, s0⟩ := open_field Tryz.underlying25 hf' hs 0 22 0 1 rfl rfl rfl c22
  obtain ⟨_, y1, t1, s1⟩ := open_field Tryz.underlying25 hf' hs 1 23 1 1 rfl rfl rfl c23
  obtain ⟨_, y2, t2, s2⟩ := open_field Tryz.underlying25 hf' hs 2 22 2 1 rfl rfl rfl c22
  obtain ⟨lt, ht, htl, htz⟩ := open_strs t0 s0
  obtain ⟨le, he, hel, hez⟩ := open_elts t1 s1
  obtain ⟨lu, hu, hul, huz⟩ := open_strs t2 s2
  exact ⟨a, b, c, ⟨lt, le, lu⟩, rfl, ⟨ht, he, hu⟩, ⟨htl, htz⟩, ⟨hul, huz⟩, hel, hez⟩
end
end Go.Proofs.YtghlodpbbghcoaaGreatDoor

/- The table of package bits, read off what is laid. -/
namespace Go.Proofs.YtghlodpbbghcoaaGreatDoor
open Go.RowKit Go.Lib
theorem laid_tab : laidL = [("math/bits.deBruijn64tab", tabData .u8 (Lib.deBruijn64tab.map Int.ofNat))] := by kernel_rfl
theorem tz_laid {W : World} (h : laidMetH Tryz.prog laidL W) : TzTab W := by
  rw [MakeChecks.laidMetH_plain _ _ _ (by kernel_rfl), laid_tab] at h
  have h1 : VarReads Tryz.prog W "math/bits.deBruijn64tab" (tabData .u8 (Lib.deBruijn64tab.map Int.ofNat)) := Lib.laidMet.reads h (.head _)
  obtain ⟨g, t, cs, fuel, p, hg, hty, hvar, hd⟩ := h1
  obtain rfl := Option.some.inj ((show Tryz.prog.globalNamed "math/bits.deBruijn64tab" = some 1 by kernel_rfl).symm.trans hg)
  obtain rfl := Option.some.inj ((show (Tryz.prog.globals[1]?).map (·.type) = some 208 by kernel_rfl).symm.trans hty)
  have hcs := cells_of_tab Tryz.underlying208 Tryz.underlying5 (by kernel_rfl) (by kernel_rfl) hd
  intro j hj
  rw [World.var?_cell hg hvar j, ← Array.getElem?_toList, hcs]
  have hj2 : j < (Lib.deBruijn64tab.map Int.ofNat).length := by simpa using hj
  simp [List.getElem?_eq_getElem hj]
end Go.Proofs.YtghlodpbbghcoaaGreatDoor
