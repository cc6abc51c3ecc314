/- Shapes of the arguments. -/
import Derived.Test.YtniioedflegdkaaFr
import Derived.Test.YtniioedflegdkaaGB
set_option linter.all false
namespace Go.Proofs.Ytniioedflegdkaa
open Go Go.Ab Go.Proofs Go.Fs Go.RowKit
theorem enc_wr {r : List S} (h : EncR (.struct [.int .i64, .str]) r) : ∃ w : Wr, r = wrE w := by
  obtain ⟨a, q, rfl, h1, h⟩ := encL_cons (enc_struct h)
  obtain ⟨b, q, rfl, h2, h⟩ := encL_cons h
  obtain rfl := encL_nil h
  obtain ⟨n, rfl, _⟩ := enc_int h1
  obtain ⟨s, rfl, _⟩ := enc_str h2
  exact ⟨⟨n, s⟩, rfl⟩
theorem enc_op {r : List S} (h : EncR (.struct [.bool, .struct [.int .i64, .str]]) r) : ∃ o : DOp, r = opE o := by
  obtain ⟨a, q, rfl, h1, h⟩ := encL_cons (enc_struct h)
  obtain ⟨b, q, rfl, h2, h⟩ := encL_cons h
  obtain rfl := encL_nil h
  obtain ⟨n, rfl⟩ := enc_bool h1
  obtain ⟨w, rfl⟩ := enc_wr h2
  exact ⟨⟨n, w⟩, rfl⟩
theorem enc_num {r : List S} (h : EncR (.int .i64) r) : ∃ n : Int, r = numE n := by
  obtain ⟨n, rfl, _⟩ := enc_int h
  exact ⟨n, rfl⟩
theorem enc_st {r : List S} (h : EncR .str r) : ∃ s : Bs, r = strE s := by
  obtain ⟨n, rfl, _⟩ := enc_str h
  exact ⟨n, rfl⟩
theorem enc_dk {r : List S} (h : EncR (.struct [.list 1 .str, .list 2 (.struct [.int .i64, .str])]) r) : ∃ ss cs f g, r = [.list 1 (encs strE ss) f, .list 2 (encs wrE cs) g] := by
  obtain ⟨a, q, rfl, h1, h⟩ := encL_cons (enc_struct h)
  obtain ⟨b, q, rfl, h2, h⟩ := encL_cons h
  obtain rfl := encL_nil h
  obtain ⟨r1, f, rfl, _, g1⟩ := enc_list h1
  obtain ⟨r2, g, rfl, _, g2⟩ := enc_list h2
  obtain ⟨ss, rfl⟩ := enc_rows strE fun r hr => enc_st (g1 r hr)
  obtain ⟨cs, rfl⟩ := enc_rows wrE fun r hr => enc_wr (g2 r hr)
  exact ⟨ss, cs, f, g, rfl⟩
theorem bulk_st (s : Bs) : 1 ≤ bulkR (strE s) := by simp only [strE, bulkR_cons, bulkR_nil, bulkS_str]; omega
theorem bulk_wr (w : Wr) : 1 ≤ bulkR (wrE w) := by simp only [wrE, bulkR_cons, bulkR_nil, bulkS_str, bulkS_int]; omega
theorem bulk_op (o : DOp) : 1 ≤ bulkR (opE o) := by simp only [opE, bulkR_cons, bulkR_nil, bulkS_str, bulkS_int, bulkS_bool]; omega
theorem bulk_num (n : Int) : 1 ≤ bulkR (numE n) := by simp only [numE, bulkR_cons, bulkR_nil, bulkS_int]; omega
theorem enc_rec {r : List S} (h : EncR (.struct [.int .i64, .str]) r) : ∃ w : Rec, r = recE w := by
  obtain ⟨a, q, rfl, h1, h⟩ := encL_cons (enc_struct h)
  obtain ⟨b, q, rfl, h2, h⟩ := encL_cons h
  obtain rfl := encL_nil h
  obtain ⟨n, rfl, _⟩ := enc_int h1
  obtain ⟨s, rfl, _⟩ := enc_str h2
  exact ⟨⟨n, s⟩, rfl⟩
theorem bulk_rec (w : Rec) : 1 ≤ bulkR (recE w) := by simp only [recE, bulkR_cons, bulkR_nil, bulkS_str, bulkS_int]; omega
theorem enc_stp {r : List S} (h : EncR (.struct [.bool, .bool, .int .i64, .int .i64, .str, .list 1 (.int .i64)]) r) : ∃ s : Stp, r = stpE s := by
  obtain ⟨a, q, rfl, h1, h⟩ := encL_cons (enc_struct h)
  obtain ⟨b, q, rfl, h2, h⟩ := encL_cons h
  obtain ⟨c, q, rfl, h3, h⟩ := encL_cons h
  obtain ⟨d, q, rfl, h4, h⟩ := encL_cons h
  obtain ⟨e, q, rfl, h5, h⟩ := encL_cons h
  obtain ⟨f, q, rfl, h6, h⟩ := encL_cons h
  obtain rfl := encL_nil h
  obtain ⟨rn, rfl⟩ := enc_bool h1
  obtain ⟨cut, rfl⟩ := enc_bool h2
  obtain ⟨n, rfl, _⟩ := enc_int h3
  obtain ⟨most, rfl, _⟩ := enc_int h4
  obtain ⟨t, rfl, _⟩ := enc_str h5
  obtain ⟨r1, g, rfl, _, g1⟩ := enc_list h6
  obtain ⟨keep, rfl⟩ := enc_rows numE fun r hr => enc_num (g1 r hr)
  exact ⟨⟨rn, cut, n, most, t, keep, g⟩, rfl⟩
end Go.Proofs.Ytniioedflegdkaa
