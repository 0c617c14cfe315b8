/- DetectionAnswers is true at every tape, time and message: the walks, and the given form. -/
import Derived.Test.YtmiicjoaaplklaaRows
import Derived.Test.YtmiicjoaaplklaaDetN
namespace Go.Fw
open Go.Proofs
theorem shp_u8 {t d : Nat} {s : SV} (ht : tt t = .int .u8) (h : Shp Try.prog tt (d + 1) t s) : ∃ n, s = .v (.int .u8 n) ∧ 0 ≤ n ∧ n ≤ 255 := by
  simp only [Shp, ht] at h
  obtain ⟨n, rfl, hn⟩ := h
  refine ⟨n, rfl, ?_⟩
  simp [Lit.wf, IntKind.min, IntKind.max, IntKind.signed, IntKind.bits] at hn
  omega
theorem shp_u16 {t d : Nat} {s : SV} (ht : tt t = .int .u16) (h : Shp Try.prog tt (d + 1) t s) : ∃ n, s = .v (.int .u16 n) ∧ 0 ≤ n ∧ n ≤ 65535 := by
  simp only [Shp, ht] at h
  obtain ⟨n, rfl, hn⟩ := h
  refine ⟨n, rfl, ?_⟩
  simp [Lit.wf, IntKind.min, IntKind.max, IntKind.signed, IntKind.bits] at hn
  omega
theorem shp_any {t d : Nat} {s : SV} {k : IntKind} (ht : tt t = .int k) (h : Shp Try.prog tt (d + 1) t s) : ∃ n, s = .v (.int k n) := by
  simp only [Shp, ht] at h
  obtain ⟨n, rfl, hn⟩ := h
  exact ⟨n, rfl⟩
theorem shp_bool {d : Nat} {s : SV} (h : Shp Try.prog tt (d + 1) 4 s) : ∃ b, s = .v (.bool b) := h
theorem shp_msg {d : Nat} {s : SV} (h : Shp Try.prog tt (d + 4) 59 s) : ∃ m p c, s = msgV m (.fs .no 20 p) (.fs .no 20 c) ∧ MoOK m := by
  obtain ⟨cs, rfl, hl, h⟩ := h
  match cs, hl with
  | [f0, f1, f2, f3, f4, f5, f6, f7, f8, f9, f10], _ =>
    obtain ⟨x0, rfl, _⟩ := shp_u8 (d := d + 2) rfl (h 0 _ _ rfl rfl)
    obtain ⟨x1, rfl, _⟩ := shp_u8 (d := d + 2) rfl (h 1 _ _ rfl rfl)
    obtain ⟨x2, rfl, _⟩ := shp_u16 (d := d + 2) rfl (h 2 _ _ rfl rfl)
    obtain ⟨x3, rfl⟩ := shp_ip (d := d + 2) (h 3 _ _ rfl rfl)
    obtain ⟨c4, rfl, l4, h4⟩ : ∃ l, f4 = .agg l ∧ l.length = 3 ∧ _ := h 4 _ _ rfl rfl
    obtain ⟨c5, rfl, l5, h5⟩ : ∃ l, f5 = .agg l ∧ l.length = 4 ∧ _ := h 5 _ _ rfl rfl
    obtain ⟨x6, rfl⟩ := shp_bool (d := d + 2) (h 6 _ _ rfl rfl)
    obtain ⟨p, rfl, _⟩ : ∃ l, f7 = .fs .no 20 l ∧ _ := h 7 _ _ rfl rfl
    obtain ⟨c, rfl, _⟩ : ∃ l, f8 = .fs .no 20 l ∧ _ := h 8 _ _ rfl rfl
    obtain ⟨c9, rfl, l9, h9⟩ : ∃ l, f9 = .agg l ∧ l.length = 3 ∧ _ := h 9 _ _ rfl rfl
    obtain ⟨x10, rfl⟩ := shp_bool (d := d + 2) (h 10 _ _ rfl rfl)
    match c4, l4, c5, l5, c9, l9 with
    | [a0, a1, a2], _, [o0, o1, o2, o3], _, [b0, b1, b2], _ =>
      obtain ⟨y0, rfl⟩ := shp_any (d := d + 1) rfl (h4 0 _ _ rfl rfl)
      obtain ⟨y1, rfl⟩ := shp_any (d := d + 1) rfl (h4 1 _ _ rfl rfl)
      obtain ⟨y2, rfl⟩ := shp_any (d := d + 1) rfl (h4 2 _ _ rfl rfl)
      obtain ⟨z0, rfl⟩ := shp_any (d := d + 1) rfl (h5 0 _ _ rfl rfl)
      obtain ⟨z1, rfl, e1, e1'⟩ := shp_u8 (d := d + 1) rfl (h5 1 _ _ rfl rfl)
      obtain ⟨z2, rfl⟩ := shp_any (d := d + 1) rfl (h5 2 _ _ rfl rfl)
      obtain ⟨z3, rfl, e3, e3'⟩ := shp_u16 (d := d + 1) rfl (h5 3 _ _ rfl rfl)
      obtain ⟨w0, rfl⟩ := shp_any (d := d + 1) rfl (h9 0 _ _ rfl rfl)
      obtain ⟨w1, rfl⟩ := shp_any (d := d + 1) rfl (h9 1 _ _ rfl rfl)
      obtain ⟨w2, rfl⟩ := shp_ip (d := d + 1) (h9 2 _ _ rfl rfl)
      exact ⟨⟨x0, x1, x2, x3, y0, y1, y2, z0, z1, z2, z3, x6, w0, w1, w2, x10⟩, p, c, rfl, ⟨⟨e1, e1'⟩, ⟨e3, e3'⟩⟩⟩
end Go.Fw
namespace Go.Proofs.Ytmiicjoaaplklaa.detectionAnswers
open Go.ChangeShapes Go.WideShapes Go.ChangeAt Go.RowKit
theorem own : ownKnob Try.prog.godebug = none := by kernel_rfl
theorem con : ∀ svs, Fw.ShpL Try.prog Fw.tt 8 Try.f5.params.toList svs → Fw.Con Try.prog 5 svs [] (.v (.bool true)) [] := by
  intro svs hsh
  rcases svs with _ | ⟨s0, svs⟩
  · exact hsh.elim
  obtain ⟨h0, hsh⟩ := hsh
  rcases svs with _ | ⟨s1, svs⟩
  · exact hsh.elim
  obtain ⟨h1, hsh⟩ := hsh
  rcases svs with _ | ⟨s2, svs⟩
  · exact hsh.elim
  obtain ⟨h2, hsh⟩ := hsh
  rcases svs with _ | ⟨s, svs⟩
  case cons => exact hsh.elim
  obtain ⟨l, rfl, _⟩ := Fw.shp_ints h0
  obtain ⟨n, rfl, _⟩ := Fw.shp_int rfl h1
  obtain ⟨m, p, c, rfl, hm⟩ := Fw.shp_msg h2
  exact Fw.k_DetectionAnswers l n m p c hm
theorem spec {H : Type} (ds : List (DataW H)) (h : ds.length = Try.f5.params.size) : (Rows.detectionAnswersSpec.fn H ds).results = [.lit (.bool true)] ∧ (Rows.detectionAnswersSpec.fn H ds).args = ds ∧ (Rows.detectionAnswersSpec.fn H ds).vars = [] := by
  have hp : Try.f5.params.size = 3 := rfl
  rcases ds with _ | ⟨d0, ds⟩
  · simp [hp] at h
  rcases ds with _ | ⟨d1, ds⟩
  · simp [hp] at h
  rcases ds with _ | ⟨d2, ds⟩
  · simp [hp] at h
  rcases ds with _ | ⟨d, ds⟩
  case cons => simp [hp] at h
  exact ⟨rfl, rfl, rfl⟩
theorem lifted (os : Os) (started : os.Started) (H : Type) (enc : TypeId × Value → H) :
    ReturnsInHanded {} Try.checked os 5 .any (Rows.detectionAnswersSpec.pre6 enc Try.prog Try.f5 Rows.detectionAnswersRow.domain false) (Rows.detectionAnswersSpec.post enc Try.prog Try.f5 false true false false) :=
  Fw.lift_law (C := Try.checked) (TT := Fw.tt) own started (by kernel_rfl) Try.func5
    (ChangeSpec.witness6 (enc := enc) (C := Try.checked) false ⟨#[], #[.slice none 0 0, .int .i64 0, .agg #[.int .u8 0, .int .u8 0, .int .u16 0, .int .u8 0, .int .u8 0, .int .u8 0, .int .u8 0, .int .u8 0, .int .u8 0, .int .u8 0, .int .u8 0, .int .u8 0, .int .u8 0, .int .u8 0, .int .u8 0, .int .u8 0, .int .u8 0, .int .u8 0, .int .u8 0, .int .i64 0, .int .u16 0, .int .u64 0, .int .u64 0, .int .u8 0, .int .u8 0, .int .u16 0, .bool false, .slice none 0 0, .slice none 0 0, .int .u32 0, .int .u16 0, .int .u8 0, .int .u8 0, .int .u8 0, .int .u8 0, .int .u8 0, .int .u8 0, .int .u8 0, .int .u8 0, .int .u8 0, .int .u8 0, .int .u8 0, .int .u8 0, .int .u8 0, .int .u8 0, .int .u8 0, .int .u8 0, .bool false]], []⟩ 8 (by kernel_rfl) (by kernel_rfl) (by kernel_rfl) (by kernel_rfl))
    (by kernel_rfl) rfl spec rfl Try.underlying4 (by kernel_rfl) Fw.ttok 8 (by kernel_rfl) (fun _ => rfl) (by kernel_rfl) con
theorem over : Rows.detectionAnswersRow.holds Try.pinned (OpenSpec.ofChange Rows.detectionAnswersSpec) :=
  OpenClaim.holds_of_wide 5 Try.f5 rfl rfl rfl rfl rfl rfl rfl ⟨rfl, rfl, rfl, rfl, rfl⟩ rfl rfl rfl rfl rfl (by kernel_rfl) Try.func5 (by kernel_rfl)
    (of_decide_eq_true (by kernel_rfl)) (by unfold Func.isWrapper; first | (rw [if_pos (by decide +kernel)]; kernel_rfl) | (rw [if_neg (by decide +kernel)]; exact ⟨rfl, rfl⟩))
    (fun os started H enc _ => lifted os started H enc)
/-- THE STATEMENT -/
theorem proved : Rows.DetectionAnswersSaid :=
  over
#print axioms proved
end Go.Proofs.Ytmiicjoaaplklaa.detectionAnswers

