/- Walks over expressions: an expression's text; the law RegexPrints. -/
import Derived.Test.YtaefhfldgemcnaaR26
namespace Go.Proofs.Ytaefhfldgemcnaa
open Go.RowKit

theorem write_any (B : Nat) : ∀ (n : Nat) (t : T), t.size ≤ n → WF t → WriteOk B t := by
  intro n
  induction n with
  | zero => intro t h; have := size_pos t; omega
  | succ n ih =>
    have hl : ∀ l : List T, sizes l ≤ n → WFs l → ∀ t ∈ l, WriteOk B t := by
      intro l
      induction l with
      | nil => intro _ _ t ht; simp at ht
      | cons u l ihl =>
        intro h1 h2 t ht
        rw [sizes] at h1
        rw [WFs] at h2
        rcases List.mem_cons.1 ht with rfl | ht
        · exact ih _ (by omega) h2.1
        · exact ihl (by omega) h2.2 t ht
    intro t h hw
    cases t with
    | set m => rw [WF] at hw; exact write_set B m hw
    | rep p op => rw [T.size] at h; rw [WF] at hw; exact write_rep B p op (ih p (by omega) hw.1)
    | seq l =>
      rw [T.size] at h
      rw [WF] at hw
      have hk := hl l (by omega) hw
      intro place pv v L w hpl hp ho hB hlen
      by_cases h2 : place = 2
      · subst h2
        exact write_seq_high B l (write_seq_low B l 0 (by omega) hk) pv v L w hp ho hB hlen
      · exact write_seq_low B l place (by omega) hk pv v L w hp ho hB (by omega)
    | alt l =>
      rw [T.size] at h
      rw [WF] at hw
      have hk := hl l (by omega) hw.2
      intro place pv v L w hpl hp ho hB hlen
      by_cases h2 : place = 0
      · exact write_alt_low B l place h2 hk pv v L w hp ho hB (by omega)
      · exact write_alt_high B l place (by omega) (write_alt_low B l 0 rfl hk) pv v L w hp ho hB hlen

theorem conv_own {w : World} {base : Nat} {xs : List Int} {A : Option Addr} {c : Nat} (h : w.ownsRow base 5 1 (.slice A xs.length c) xs.length (xs.map (Value.int .u8))) :
    ∀ wx, Below w.heap.size w wx → (convert 32 9 (.slice A xs.length c)).run Try.prog wx = .ok (.string (strOfNums xs)) wx := by
  intro wx hb
  have hc := (CellsAt.of_own h).below hb
  rcases Nat.eq_zero_or_pos xs.length with h0 | h0
  · have hx : xs = [] := List.eq_nil_of_length_eq_zero h0
    subst hx
    rcases h.2 with ⟨hv, _⟩ | ⟨g, cap, cur, hv, _, hh, _⟩
    · simp only [Value.slice.injEq] at hv
      obtain ⟨rfl, _, rfl⟩ := hv
      exact run_convert_bytes_nil wx 32 5 Try.underlying32 Try.underlying5 _ _ 9 Try.underlying9
    · simp only [Value.slice.injEq] at hv
      obtain ⟨rfl, _, rfl⟩ := hv
      exact run_convert_bytes_arg wx 32 5 Try.underlying32 Try.underlying5 g 0 0 c [] rfl (fun i hi => absurd hi (by omega)) 9 Try.underlying9
  · obtain ⟨b, o, rfl, _, _⟩ := hc 0 (by simpa using h0)
    refine run_convert_bytes_arg wx 32 5 Try.underlying32 Try.underlying5 b o xs.length c xs rfl (fun i hi => ?_) 9 Try.underlying9
    obtain ⟨b', o', he, _, hcell⟩ := hc i (by simpa using hi)
    simp only [Option.some.injEq, Addr.mk.injEq, and_true] at he
    obtain ⟨rfl, rfl⟩ := he
    rw [hcell]
    simp [List.getD, List.getElem?_eq_getElem hi]

theorem conv_Y {w : World} {B : Nat} {v : Value} {L : List UInt8} (h : OwnY w B v L) : ∃ s : ByteArray, s.data.toList = L ∧ ∀ wx, Below w.heap.size w wx → (convert 32 9 v).run Try.prog wx = .ok (.string s) wx := by
  obtain ⟨A, c, rfl, h2⟩ := h
  have e : bys L = (L.map fun c => (c.toNat : Int)).map (Value.int .u8) := by unfold bys; rw [List.map_map]; rfl
  have hl : (L.map fun c => (c.toNat : Int)).length = L.length := by simp
  rw [e, ← hl] at h2
  refine ⟨strOfNums (L.map fun c => (c.toNat : Int)), ?_, ?_⟩
  · rw [strOfNums_data, List.map_map]
    conv => rhs; rw [← List.map_id L]
    refine List.map_congr_left fun b _ => ?_
    simp
  · have := conv_own h2
    rw [hl] at this
    exact this

theorem match_on {w wx : World} {g M : Nat} {t : T} {s : ByteArray} {b : Bool} (h : RxAt w g M t) (hM : M ≤ w.heap.size) (hx : Below M w wx) (hts : t.size ≤ 1000) (hs : s.size ≤ 1000) (hb : accB (netN t) s.data.toList = b) :
    Calls Try.prog 32 #[.pointer (some ⟨g, 0, none⟩), .string s] wx (BoolPost b wx) :=
  match_rx g M t s b wx (h.below hx (Nat.le_refl _)) (Nat.le_trans hM hx.size) hts hs hb
def PrintPost (t : T) (w : World) (e : Ending) (w' : World) : Prop := ∃ s : ByteArray, e = .returned (.string s) ∧ s.data.toList = wr t 0 ∧ Below w.heap.size w w'
set_option maxHeartbeats 800000 in
theorem print_any (g M : Nat) (t : T) (w : World) (h : RxAt w g M t) (hM : M ≤ w.heap.size) (hw : WF t) (ht : t.size ≤ 1500) :
    Calls Try.prog 38 #[.pointer (some ⟨g, 0, none⟩)] w (PrintPost t w) := by
  obtain ⟨ty, u, h1, h2⟩ := h.blk
  have H1 := Lib.hid h1
  have HW := Lib.hid (write_any w.heap.size t.size t (Nat.le_refl _) hw 0 (.iface ty u) (.slice none 0 0) [] w (by omega) (h2.move (fun x hx => ⟨Nat.lt_of_lt_of_le hx hM, rfl⟩)) (OwnY.nil _ _) (Nat.le_refl _) (by simp; omega))
  clear h1 h2 hw h
  go_enter Try.func38, Try.ntmps38
  go_wp2_with fail
  refine (inner_any g ty u _ H1.out).mono ?_
  rintro e w1 ⟨rfl, rfl⟩
  go_wp2_with fail
  refine HW.out.mono ?_
  rintro e w2 ⟨v2, rfl, ho2, hb2, hk2⟩
  obtain ⟨s, hs, hcv⟩ := conv_Y ho2
  have hcv2 := hcv w2 (Below.refl _ _)
  have Hs := Lib.hid hs
  clear hs hcv hk2 ho2
  go_wp2_with fail
  go_ret
  exact ⟨s, rfl, Hs.out, hb2⟩

set_option maxHeartbeats 400000 in
theorem parse_long (s : ByteArray) (w : World) (hs : 60 < s.size) (h2 : s.size ≤ 9223372036854775807) :
    Calls Try.prog 29 #[.string s] w fun e w' => e = .returned (.tuple #[.pointer none, .int .i64 3]) ∧ w = w' := by
  have hi : (60 : Int) < (s.size : Int) := by omega
  go_enter Try.func29, Try.ntmps29
  go_wp2_with fail
  go_ret2
  exact ⟨rfl, rfl⟩
theorem parseR_wf {s : ByteArray} {t : T} (h : parseR s = some t) : WF t := by
  unfold parseR at h
  split at h
  · cases h
  · exact parseF_wf h
theorem print_again {t : T} {s : ByteArray} (hw : WF t) (hs : s.data.toList = wr t 0) (h60 : s.size ≤ 60) : ∃ t', parseR s = some t' ∧ ∀ x, accB (netN t') x = accB (netN t) x := by
  obtain ⟨t', h1, h2⟩ := print_parse hw hs
  refine ⟨t', by unfold parseR; rw [if_neg (by omega)]; exact h1, fun x => ?_⟩
  rw [Bool.eq_iff_iff, acc_true, acc_true]
  exact h2 x

set_option maxRecDepth 8192 in
set_option maxHeartbeats 6400000 in
theorem regexPrints_any (s t : ByteArray) (w : World) (_hs : s.size ≤ 9223372036854775807) (_ht : t.size ≤ 9223372036854775807) :
    Calls Try.prog 12 #[.string s, .string t] w (BoolPost true w) := by
  have HF1 := Lib.hid (fun (wx : World) => few2_is s 12 wx (by omega))
  have HF2 := Lib.hid (fun (wx : World) => few2_is t 12 wx (by omega))
  have hs1 := few2B_size s 12
  have ht1 := few2B_size t 12
  generalize few2B s 12 = s' at HF1 hs1
  generalize few2B t 12 = t' at HF2 ht1
  have Hlv : Hid (∀ wx, Calls Try.prog 31 #[] wx (BoolPost true wx)) := rxLives_any
  go_enter Try.func12, Try.ntmps12
  go_wp2_with fail
  refine (HF2.out _).mono ?_
  rintro e w0 ⟨rfl, rfl⟩
  go_wp2_with fail
  refine (HF1.out _).mono ?_
  rintro e w0 ⟨rfl, rfl⟩
  go_wp2_with fail
  cases hp : parseR s' with
  | none =>
    have hi60 : ¬ 60 < s'.size := by omega
    refine (parse_none hp w (by omega)).mono ?_
    rw [if_neg hi60]
    rintro e w1 ⟨rfl, hB1⟩
    clear hp
    go_wp2_with fail
    refine (Hlv.out w1).mono ?_
    rintro e w2 ⟨rfl, hb2⟩
    have hX := Lib.hid (hB1.out.trans (hb2.mono hB1.out.size))
    clear hb2
    go_wp2_with fail
    go_ret
    exact ⟨rfl, hX.out⟩
  | some tr =>
    have hsz := parseR_size hp
    have Hwf := Lib.hid (parseR_wf hp)
    refine (parse_some hp w (by omega)).mono ?_
    rintro e w1 ⟨g, rfl, hR1, hB1⟩
    clear hp
    go_wp2_with fail
    refine (print_any g _ tr w1 hR1.out (Nat.le_refl _) Hwf.out (by omega)).mono ?_
    rintro e w2 ⟨p, rfl, hpl, hb2⟩
    have hpz : p.size ≤ 9223372036854775807 := by
      have := wr_len tr 0
      rw [← hpl] at this
      rw [Array.length_toList] at this
      have : p.size ≤ 500 * tr.size := this
      omega
    have hX2 := Lib.hid (hB1.out.trans (hb2.mono hB1.out.size))
    have hY2 := Lib.hid hb2
    have Hpl := Lib.hid hpl
    clear hb2 hpl
    go_wp2_with fail
    by_cases h60 : 60 < p.size
    · have hi : (60 : Int) < (p.size : Int) := by omega
      refine (parse_long p w2 h60 hpz).mono ?_
      rintro e w3 ⟨rfl, rfl⟩
      go_wp2_with fail
      refine (Hlv.out w2).mono ?_
      rintro e w4 ⟨rfl, hb4⟩
      have hX := Lib.hid (hX2.out.trans (hb4.mono hX2.out.size))
      clear hb4
      go_wp2_with fail
      go_ret
      exact ⟨rfl, hX.out⟩
    · have hi : ¬ (60 : Int) < (p.size : Int) := by omega
      obtain ⟨t2, hp2, hacc⟩ := print_again Hwf.out Hpl.out (by omega)
      have hsz2 := parseR_size hp2
      have Hacc := Lib.hid hacc
      refine (parse_some hp2 w2 (by omega)).mono ?_
      rintro e w3 ⟨g2, rfl, hR3, hB3⟩
      have hX3 := Lib.hid (hX2.out.trans (hB3.out.mono hX2.out.size))
      have hY3 := Lib.hid (hY2.out.trans (hB3.out.mono hY2.out.size))
      clear hp2 hacc
      go_wp2_with fail
      refine (match_on hR3.out (Nat.le_refl _) (Below.refl _ _) (by omega) (by omega) rfl).mono ?_
      rintro e w4 ⟨rfl, hb4⟩
      have hX4 := Lib.hid (hX3.out.trans (hb4.mono hX3.out.size))
      have hY4 := Lib.hid (hY3.out.trans (hb4.mono hY3.out.size))
      rw [Hacc.out]
      clear hb4
      go_wp2_with fail
      refine (match_on hR1.out (Nat.le_refl _) hY4.out (by omega) (by omega) rfl).mono ?_
      rintro e w5 ⟨rfl, hb5⟩
      have hX5 := Lib.hid (hX4.out.trans (hb5.mono hX4.out.size))
      clear hb5
      go_wp2_with fail
      refine (Hlv.out w5).mono ?_
      rintro e w6 ⟨rfl, hb6⟩
      have hX6 := Lib.hid (hX5.out.trans (hb6.mono hX5.out.size))
      clear hb6
      go_wp2_with fail
      go_ret
      exact ⟨by simp, hX6.out⟩
end Go.Proofs.Ytaefhfldgemcnaa
