/- Closed facts on the types of the loaded program, written by wip/facts.py. -/
import Derived.Test.YtkonigmefmgepaaDoorFwE
import Derived.Test.YtkonigmefmgepaaDoorS0
import Derived.Test.YtkonigmefmgepaaDoorS1
import Derived.Test.YtkonigmefmgepaaDoorS2
import Derived.Test.YtkonigmefmgepaaDoorS3
namespace Go.Proofs.YtkonigmefmgepaaDoor
set_option maxRecDepth 100000
theorem ty0 : tyI P 0 = some (1, 0, some (.tuple #[])) := by kernel_rfl
theorem ty1 : tyI P 1 = some (1, 8, some (.nilFunc)) := by kernel_rfl
theorem sc1 : scal P 1 = true := by kernel_rfl
theorem un2 : P.underlying 2 = some (.int .i64) := by kernel_rfl
theorem ty2 : tyI P 2 = some (1, 8, some (.int .i64 0)) := by kernel_rfl
theorem sc2 : scal P 2 = true := by kernel_rfl
theorem un3 : P.underlying 3 = some (.int .i64) := by kernel_rfl
theorem ty3 : tyI P 3 = some (1, 8, some (.int .i64 0)) := by kernel_rfl
theorem sc3 : scal P 3 = true := by kernel_rfl
theorem un4 : P.underlying 4 = some (.bool) := by kernel_rfl
theorem ty4 : tyI P 4 = some (1, 1, some (.bool false)) := by kernel_rfl
theorem sc4 : scal P 4 = true := by kernel_rfl
theorem un5 : P.underlying 5 = some (.int .u8) := by kernel_rfl
theorem ty5 : tyI P 5 = some (1, 1, some (.int .u8 0)) := by kernel_rfl
theorem sc5 : scal P 5 = true := by kernel_rfl
theorem un9 : P.underlying 9 = some (.string) := by kernel_rfl
theorem ty9 : tyI P 9 = some (1, 16, some (.string ⟨#[]⟩)) := by kernel_rfl
theorem sc9 : scal P 9 = true := by kernel_rfl
theorem len9 {s : ByteArray} {ty : TypeId} {cons : Array Bool} {K : Value → C} {pn : Pn} : nextS P (bltN .len #[9] ty cons #[.string s]) K pn = K (.int .i64 s.size) := nx_val fun _ => pv_lenS un9
theorem un22 : P.underlying 22 = some (.slice 46) := by kernel_rfl
theorem ty22 : tyI P 22 = some (1, 24, some (.slice none 0 0)) := by kernel_rfl
theorem sc22 : scal P 22 = true := by kernel_rfl
theorem len22 {a : Option Addr} {n c : Nat} {ty : TypeId} {cons : Array Bool} {K : Value → C} {pn : Pn} : nextS P (bltN .len #[22] ty cons #[.slice a n c]) K pn = K (.int .i64 n) := nx_val fun _ => pv_len un22
theorem ty24 : tyI P 24 = some (1, 24, some (.agg #[(.slice none 0 0)])) := by kernel_rfl
theorem ag24 : aggr P 24 = true := by kernel_rfl
theorem un25 : P.underlying 25 = some (.slice 34) := by kernel_rfl
theorem ty25 : tyI P 25 = some (1, 24, some (.slice none 0 0)) := by kernel_rfl
theorem sc25 : scal P 25 = true := by kernel_rfl
theorem len25 {a : Option Addr} {n c : Nat} {ty : TypeId} {cons : Array Bool} {K : Value → C} {pn : Pn} : nextS P (bltN .len #[25] ty cons #[.slice a n c]) K pn = K (.int .i64 n) := nx_val fun _ => pv_len un25
theorem un26 : P.underlying 26 = some (.slice 2) := by kernel_rfl
theorem ty26 : tyI P 26 = some (1, 24, some (.slice none 0 0)) := by kernel_rfl
theorem sc26 : scal P 26 = true := by kernel_rfl
theorem len26 {a : Option Addr} {n c : Nat} {ty : TypeId} {cons : Array Bool} {K : Value → C} {pn : Pn} : nextS P (bltN .len #[26] ty cons #[.slice a n c]) K pn = K (.int .i64 n) := nx_val fun _ => pv_len un26
theorem un27 : P.underlying 27 = some (.slice 33) := by kernel_rfl
theorem ty27 : tyI P 27 = some (1, 24, some (.slice none 0 0)) := by kernel_rfl
theorem sc27 : scal P 27 = true := by kernel_rfl
theorem len27 {a : Option Addr} {n c : Nat} {ty : TypeId} {cons : Array Bool} {K : Value → C} {pn : Pn} : nextS P (bltN .len #[27] ty cons #[.slice a n c]) K pn = K (.int .i64 n) := nx_val fun _ => pv_len un27
theorem un30 : P.underlying 30 = some (.pointer 60) := by kernel_rfl
theorem ty30 : tyI P 30 = some (1, 8, some (.pointer none)) := by kernel_rfl
theorem sc30 : scal P 30 = true := by kernel_rfl
theorem ty33 : tyI P 33 = some (3, 56, some (.agg #[(.int .i64 0), (.slice none 0 0), (.slice none 0 0)])) := by kernel_rfl
theorem ag33 : aggr P 33 = true := by kernel_rfl
theorem un34 : P.underlying 34 = some (.slice 4) := by kernel_rfl
theorem ty34 : tyI P 34 = some (1, 24, some (.slice none 0 0)) := by kernel_rfl
theorem sc34 : scal P 34 = true := by kernel_rfl
theorem len34 {a : Option Addr} {n c : Nat} {ty : TypeId} {cons : Array Bool} {K : Value → C} {pn : Pn} : nextS P (bltN .len #[34] ty cons #[.slice a n c]) K pn = K (.int .i64 n) := nx_val fun _ => pv_len un34
theorem un35 : P.underlying 35 = some (.slice 51) := by kernel_rfl
theorem ty35 : tyI P 35 = some (1, 24, some (.slice none 0 0)) := by kernel_rfl
theorem sc35 : scal P 35 = true := by kernel_rfl
theorem len35 {a : Option Addr} {n c : Nat} {ty : TypeId} {cons : Array Bool} {K : Value → C} {pn : Pn} : nextS P (bltN .len #[35] ty cons #[.slice a n c]) K pn = K (.int .i64 n) := nx_val fun _ => pv_len un35
theorem un40 : P.underlying 40 = some (.slice 44) := by kernel_rfl
theorem ty40 : tyI P 40 = some (1, 24, some (.slice none 0 0)) := by kernel_rfl
theorem sc40 : scal P 40 = true := by kernel_rfl
theorem len40 {a : Option Addr} {n c : Nat} {ty : TypeId} {cons : Array Bool} {K : Value → C} {pn : Pn} : nextS P (bltN .len #[40] ty cons #[.slice a n c]) K pn = K (.int .i64 n) := nx_val fun _ => pv_len un40
theorem ty44 : tyI P 44 = some (2, 16, some (.agg #[(.int .i64 0), (.int .i64 0)])) := by kernel_rfl
theorem ag44 : aggr P 44 = true := by kernel_rfl
theorem ty46 : tyI P 46 = some (5, 64, some (.agg #[(.string ⟨#[]⟩), (.int .i64 0), (.int .i64 0), (.int .i64 0), (.slice none 0 0)])) := by kernel_rfl
theorem ag46 : aggr P 46 = true := by kernel_rfl
theorem ty51 : tyI P 51 = some (3, 24, some (.agg #[(.int .i64 0), (.int .i64 0), (.int .i64 0)])) := by kernel_rfl
theorem ag51 : aggr P 51 = true := by kernel_rfl
theorem un54 : P.underlying 54 = some (.pointer 91) := by kernel_rfl
theorem ty54 : tyI P 54 = some (1, 8, some (.pointer none)) := by kernel_rfl
theorem sc54 : scal P 54 = true := by kernel_rfl
theorem un56 : P.underlying 56 = some (.chan .both 2) := by kernel_rfl
theorem ty56 : tyI P 56 = some (1, 8, some (.chan none)) := by kernel_rfl
theorem sc56 : scal P 56 = true := by kernel_rfl
theorem un57 : P.underlying 57 = some (.map 3 75) := by kernel_rfl
theorem ty57 : tyI P 57 = some (1, 8, some (.map none)) := by kernel_rfl
theorem sc57 : scal P 57 = true := by kernel_rfl
theorem un58 : P.underlying 58 = some (.pointer 94) := by kernel_rfl
theorem ty58 : tyI P 58 = some (1, 8, some (.pointer none)) := by kernel_rfl
theorem sc58 : scal P 58 = true := by kernel_rfl
theorem ty60 : tyI P 60 = some (7, 104, some (.agg #[(.pointer none), (.slice none 0 0), (.slice none 0 0), (.chan none), (.pointer none), (.map none), (.slice none 0 0)])) := by kernel_rfl
theorem ag60 : aggr P 60 = true := by kernel_rfl
theorem un63 : P.underlying 63 = some (.slice 3) := by kernel_rfl
theorem ty63 : tyI P 63 = some (1, 24, some (.slice none 0 0)) := by kernel_rfl
theorem sc63 : scal P 63 = true := by kernel_rfl
theorem len63 {a : Option Addr} {n c : Nat} {ty : TypeId} {cons : Array Bool} {K : Value → C} {pn : Pn} : nextS P (bltN .len #[63] ty cons #[.slice a n c]) K pn = K (.int .i64 n) := nx_val fun _ => pv_len un63
theorem ty72 : tyI P 72 = some (1, 8, some (.nilFunc)) := by kernel_rfl
theorem sc72 : scal P 72 = true := by kernel_rfl
theorem ty75 : tyI P 75 = some (2, 16, some (.agg #[(.int .i64 0), (.int .i64 0)])) := by kernel_rfl
theorem ag75 : aggr P 75 = true := by kernel_rfl
theorem un79 : P.underlying 79 = some (.pointer 82) := by kernel_rfl
theorem ty79 : tyI P 79 = some (1, 8, some (.pointer none)) := by kernel_rfl
theorem sc79 : scal P 79 = true := by kernel_rfl
theorem un80 : P.underlying 80 = some (.slice 5) := by kernel_rfl
theorem ty80 : tyI P 80 = some (1, 24, some (.slice none 0 0)) := by kernel_rfl
theorem sc80 : scal P 80 = true := by kernel_rfl
theorem len80 {a : Option Addr} {n c : Nat} {ty : TypeId} {cons : Array Bool} {K : Value → C} {pn : Pn} : nextS P (bltN .len #[80] ty cons #[.slice a n c]) K pn = K (.int .i64 n) := nx_val fun _ => pv_len un80
theorem ty82 : tyI P 82 = some (2, 32, some (.agg #[(.pointer none), (.slice none 0 0)])) := by kernel_rfl
theorem ag82 : aggr P 82 = true := by kernel_rfl
theorem un89 : P.underlying 89 = some (.map 3 35) := by kernel_rfl
theorem ty89 : tyI P 89 = some (1, 8, some (.map none)) := by kernel_rfl
theorem sc89 : scal P 89 = true := by kernel_rfl
theorem ty91 : tyI P 91 = some (3, 40, some (.agg #[(.int .i64 0), (.slice none 0 0), (.map none)])) := by kernel_rfl
theorem ag91 : aggr P 91 = true := by kernel_rfl
theorem un92 : P.underlying 92 = some (.slice 99) := by kernel_rfl
theorem ty92 : tyI P 92 = some (1, 24, some (.slice none 0 0)) := by kernel_rfl
theorem sc92 : scal P 92 = true := by kernel_rfl
theorem len92 {a : Option Addr} {n c : Nat} {ty : TypeId} {cons : Array Bool} {K : Value → C} {pn : Pn} : nextS P (bltN .len #[92] ty cons #[.slice a n c]) K pn = K (.int .i64 n) := nx_val fun _ => pv_len un92
theorem ty94 : tyI P 94 = some (1, 24, some (.agg #[(.slice none 0 0)])) := by kernel_rfl
theorem ag94 : aggr P 94 = true := by kernel_rfl
theorem ty96 : tyI P 96 = some (2, 16, some (.agg #[(.int .i64 0), (.int .i64 0)])) := by kernel_rfl
theorem ag96 : aggr P 96 = true := by kernel_rfl
theorem un97 : P.underlying 97 = some (.array 8 96) := by kernel_rfl
theorem ty97 : tyI P 97 = some (16, 128, some (.agg #[(.int .i64 0), (.int .i64 0), (.int .i64 0), (.int .i64 0), (.int .i64 0), (.int .i64 0), (.int .i64 0), (.int .i64 0), (.int .i64 0), (.int .i64 0), (.int .i64 0), (.int .i64 0), (.int .i64 0), (.int .i64 0), (.int .i64 0), (.int .i64 0)])) := by kernel_rfl
theorem ag97 : aggr P 97 = true := by kernel_rfl
theorem ty99 : tyI P 99 = some (18, 144, some (.agg #[(.int .i64 0), (.int .i64 0), (.int .i64 0), (.int .i64 0), (.int .i64 0), (.int .i64 0), (.int .i64 0), (.int .i64 0), (.int .i64 0), (.int .i64 0), (.int .i64 0), (.int .i64 0), (.int .i64 0), (.int .i64 0), (.int .i64 0), (.int .i64 0), (.int .i64 0), (.int .i64 0)])) := by kernel_rfl
theorem ag99 : aggr P 99 = true := by kernel_rfl
theorem un101 : P.underlying 101 = some (.pointer 99) := by kernel_rfl
theorem ty101 : tyI P 101 = some (1, 8, some (.pointer none)) := by kernel_rfl
theorem sc101 : scal P 101 = true := by kernel_rfl
theorem un108 : P.underlying 108 = some (.slice 9) := by kernel_rfl
theorem ty108 : tyI P 108 = some (1, 24, some (.slice none 0 0)) := by kernel_rfl
theorem sc108 : scal P 108 = true := by kernel_rfl
theorem len108 {a : Option Addr} {n c : Nat} {ty : TypeId} {cons : Array Bool} {K : Value → C} {pn : Pn} : nextS P (bltN .len #[108] ty cons #[.slice a n c]) K pn = K (.int .i64 n) := nx_val fun _ => pv_len un108
theorem ty110 : tyI P 110 = some (5, 48, some (.agg #[(.string ⟨#[]⟩), (.int .i64 0), (.int .i64 0), (.int .i64 0), (.int .i64 0)])) := by kernel_rfl
theorem ag110 : aggr P 110 = true := by kernel_rfl
theorem un114 : P.underlying 114 = some (.pointer 5) := by kernel_rfl
theorem ty114 : tyI P 114 = some (1, 8, some (.pointer none)) := by kernel_rfl
theorem sc114 : scal P 114 = true := by kernel_rfl
theorem ty122 : tyI P 122 = some (1, 8, some (.pointer none)) := by kernel_rfl
theorem sc122 : scal P 122 = true := by kernel_rfl
theorem un124 : P.underlying 124 = some (.array 26 110) := by kernel_rfl
theorem ty124 : tyI P 124 = some (130, 1248, some (.agg #[(.string ⟨#[]⟩), (.int .i64 0), (.int .i64 0), (.int .i64 0), (.int .i64 0), (.string ⟨#[]⟩), (.int .i64 0), (.int .i64 0), (.int .i64 0), (.int .i64 0), (.string ⟨#[]⟩), (.int .i64 0), (.int .i64 0), (.int .i64 0), (.int .i64 0), (.string ⟨#[]⟩), (.int .i64 0), (.int .i64 0), (.int .i64 0), (.int .i64 0), (.string ⟨#[]⟩), (.int .i64 0), (.int .i64 0), (.int .i64 0), (.int .i64 0), (.string ⟨#[]⟩), (.int .i64 0), (.int .i64 0), (.int .i64 0), (.int .i64 0), (.string ⟨#[]⟩), (.int .i64 0), (.int .i64 0), (.int .i64 0), (.int .i64 0), (.string ⟨#[]⟩), (.int .i64 0), (.int .i64 0), (.int .i64 0), (.int .i64 0), (.string ⟨#[]⟩), (.int .i64 0), (.int .i64 0), (.int .i64 0), (.int .i64 0), (.string ⟨#[]⟩), (.int .i64 0), (.int .i64 0), (.int .i64 0), (.int .i64 0), (.string ⟨#[]⟩), (.int .i64 0), (.int .i64 0), (.int .i64 0), (.int .i64 0), (.string ⟨#[]⟩), (.int .i64 0), (.int .i64 0), (.int .i64 0), (.int .i64 0), (.string ⟨#[]⟩), (.int .i64 0), (.int .i64 0), (.int .i64 0), (.int .i64 0), (.string ⟨#[]⟩), (.int .i64 0), (.int .i64 0), (.int .i64 0), (.int .i64 0), (.string ⟨#[]⟩), (.int .i64 0), (.int .i64 0), (.int .i64 0), (.int .i64 0), (.string ⟨#[]⟩), (.int .i64 0), (.int .i64 0), (.int .i64 0), (.int .i64 0), (.string ⟨#[]⟩), (.int .i64 0), (.int .i64 0), (.int .i64 0), (.int .i64 0), (.string ⟨#[]⟩), (.int .i64 0), (.int .i64 0), (.int .i64 0), (.int .i64 0), (.string ⟨#[]⟩), (.int .i64 0), (.int .i64 0), (.int .i64 0), (.int .i64 0), (.string ⟨#[]⟩), (.int .i64 0), (.int .i64 0), (.int .i64 0), (.int .i64 0), (.string ⟨#[]⟩), (.int .i64 0), (.int .i64 0), (.int .i64 0), (.int .i64 0), (.string ⟨#[]⟩), (.int .i64 0), (.int .i64 0), (.int .i64 0), (.int .i64 0), (.string ⟨#[]⟩), (.int .i64 0), (.int .i64 0), (.int .i64 0), (.int .i64 0), (.string ⟨#[]⟩), (.int .i64 0), (.int .i64 0), (.int .i64 0), (.int .i64 0), (.string ⟨#[]⟩), (.int .i64 0), (.int .i64 0), (.int .i64 0), (.int .i64 0), (.string ⟨#[]⟩), (.int .i64 0), (.int .i64 0), (.int .i64 0), (.int .i64 0)])) := by kernel_rfl
theorem ag124 : aggr P 124 = true := by kernel_rfl
theorem un126 : P.underlying 126 = some (.array 24 5) := by kernel_rfl
theorem ty126 : tyI P 126 = some (24, 24, some (.agg #[(.int .u8 0), (.int .u8 0), (.int .u8 0), (.int .u8 0), (.int .u8 0), (.int .u8 0), (.int .u8 0), (.int .u8 0), (.int .u8 0), (.int .u8 0), (.int .u8 0), (.int .u8 0), (.int .u8 0), (.int .u8 0), (.int .u8 0), (.int .u8 0), (.int .u8 0), (.int .u8 0), (.int .u8 0), (.int .u8 0), (.int .u8 0), (.int .u8 0), (.int .u8 0), (.int .u8 0)])) := by kernel_rfl
theorem ag126 : aggr P 126 = true := by kernel_rfl
theorem un127 : P.underlying 127 = some (.int .u64) := by kernel_rfl
theorem ty127 : tyI P 127 = some (1, 8, some (.int .u64 0)) := by kernel_rfl
theorem sc127 : scal P 127 = true := by kernel_rfl
theorem ty134 : tyI P 134 = some (1, 8, some (.nilFunc)) := by kernel_rfl
theorem sc134 : scal P 134 = true := by kernel_rfl
theorem un135 : P.underlying 135 = some (.pointer 137) := by kernel_rfl
theorem ty135 : tyI P 135 = some (1, 8, some (.pointer none)) := by kernel_rfl
theorem sc135 : scal P 135 = true := by kernel_rfl
theorem ty137 : tyI P 137 = some (1, 24, some (.agg #[(.slice none 0 0)])) := by kernel_rfl
theorem ag137 : aggr P 137 = true := by kernel_rfl
theorem un139 : P.underlying 139 = some (.array 20 127) := by kernel_rfl
theorem ty139 : tyI P 139 = some (20, 160, some (.agg #[(.int .u64 0), (.int .u64 0), (.int .u64 0), (.int .u64 0), (.int .u64 0), (.int .u64 0), (.int .u64 0), (.int .u64 0), (.int .u64 0), (.int .u64 0), (.int .u64 0), (.int .u64 0), (.int .u64 0), (.int .u64 0), (.int .u64 0), (.int .u64 0), (.int .u64 0), (.int .u64 0), (.int .u64 0), (.int .u64 0)])) := by kernel_rfl
theorem ag139 : aggr P 139 = true := by kernel_rfl
theorem un140 : P.underlying 140 = some (.int .u32) := by kernel_rfl
theorem ty140 : tyI P 140 = some (1, 4, some (.int .u32 0)) := by kernel_rfl
theorem sc140 : scal P 140 = true := by kernel_rfl
theorem un141 : P.underlying 141 = some (.array 65 5) := by kernel_rfl
theorem ty141 : tyI P 141 = some (65, 65, some (.agg #[(.int .u8 0), (.int .u8 0), (.int .u8 0), (.int .u8 0), (.int .u8 0), (.int .u8 0), (.int .u8 0), (.int .u8 0), (.int .u8 0), (.int .u8 0), (.int .u8 0), (.int .u8 0), (.int .u8 0), (.int .u8 0), (.int .u8 0), (.int .u8 0), (.int .u8 0), (.int .u8 0), (.int .u8 0), (.int .u8 0), (.int .u8 0), (.int .u8 0), (.int .u8 0), (.int .u8 0), (.int .u8 0), (.int .u8 0), (.int .u8 0), (.int .u8 0), (.int .u8 0), (.int .u8 0), (.int .u8 0), (.int .u8 0), (.int .u8 0), (.int .u8 0), (.int .u8 0), (.int .u8 0), (.int .u8 0), (.int .u8 0), (.int .u8 0), (.int .u8 0), (.int .u8 0), (.int .u8 0), (.int .u8 0), (.int .u8 0), (.int .u8 0), (.int .u8 0), (.int .u8 0), (.int .u8 0), (.int .u8 0), (.int .u8 0), (.int .u8 0), (.int .u8 0), (.int .u8 0), (.int .u8 0), (.int .u8 0), (.int .u8 0), (.int .u8 0), (.int .u8 0), (.int .u8 0), (.int .u8 0), (.int .u8 0), (.int .u8 0), (.int .u8 0), (.int .u8 0), (.int .u8 0)])) := by kernel_rfl
theorem ag141 : aggr P 141 = true := by kernel_rfl
theorem un142 : P.underlying 142 = some (.int .u64) := by kernel_rfl
theorem ty142 : tyI P 142 = some (1, 8, some (.int .u64 0)) := by kernel_rfl
theorem sc142 : scal P 142 = true := by kernel_rfl
theorem un149 : P.underlying 149 = some (.pointer 51) := by kernel_rfl
theorem ty149 : tyI P 149 = some (1, 8, some (.pointer none)) := by kernel_rfl
theorem sc149 : scal P 149 = true := by kernel_rfl
theorem un153 : P.underlying 153 = some (.array 32 5) := by kernel_rfl
theorem ty153 : tyI P 153 = some (32, 32, some (.agg #[(.int .u8 0), (.int .u8 0), (.int .u8 0), (.int .u8 0), (.int .u8 0), (.int .u8 0), (.int .u8 0), (.int .u8 0), (.int .u8 0), (.int .u8 0), (.int .u8 0), (.int .u8 0), (.int .u8 0), (.int .u8 0), (.int .u8 0), (.int .u8 0), (.int .u8 0), (.int .u8 0), (.int .u8 0), (.int .u8 0), (.int .u8 0), (.int .u8 0), (.int .u8 0), (.int .u8 0), (.int .u8 0), (.int .u8 0), (.int .u8 0), (.int .u8 0), (.int .u8 0), (.int .u8 0), (.int .u8 0), (.int .u8 0)])) := by kernel_rfl
theorem ag153 : aggr P 153 = true := by kernel_rfl
theorem un154 : P.underlying 154 = some (.array 64 5) := by kernel_rfl
theorem ty154 : tyI P 154 = some (64, 64, some (.agg #[(.int .u8 0), (.int .u8 0), (.int .u8 0), (.int .u8 0), (.int .u8 0), (.int .u8 0), (.int .u8 0), (.int .u8 0), (.int .u8 0), (.int .u8 0), (.int .u8 0), (.int .u8 0), (.int .u8 0), (.int .u8 0), (.int .u8 0), (.int .u8 0), (.int .u8 0), (.int .u8 0), (.int .u8 0), (.int .u8 0), (.int .u8 0), (.int .u8 0), (.int .u8 0), (.int .u8 0), (.int .u8 0), (.int .u8 0), (.int .u8 0), (.int .u8 0), (.int .u8 0), (.int .u8 0), (.int .u8 0), (.int .u8 0), (.int .u8 0), (.int .u8 0), (.int .u8 0), (.int .u8 0), (.int .u8 0), (.int .u8 0), (.int .u8 0), (.int .u8 0), (.int .u8 0), (.int .u8 0), (.int .u8 0), (.int .u8 0), (.int .u8 0), (.int .u8 0), (.int .u8 0), (.int .u8 0), (.int .u8 0), (.int .u8 0), (.int .u8 0), (.int .u8 0), (.int .u8 0), (.int .u8 0), (.int .u8 0), (.int .u8 0), (.int .u8 0), (.int .u8 0), (.int .u8 0), (.int .u8 0), (.int .u8 0), (.int .u8 0), (.int .u8 0), (.int .u8 0)])) := by kernel_rfl
theorem ag154 : aggr P 154 = true := by kernel_rfl
theorem fp24_0 {b o : Nat} (w : World) : (V (Instr.fieldAt 24 (.pointer (some ⟨b, o, none⟩)) 0)).run P w = .ok (.value (.pointer (some ⟨b, o, none⟩))) w := by kernel_rfl
theorem fa24_0 {b o : Nat} {K : Value → C} {pn : Pn} : nextS P (V (Instr.fieldAt 24 (.pointer (some ⟨b, o, none⟩)) 0)) K pn = K (.pointer (some ⟨b, o, none⟩)) := nx_val fun w => fp24_0 w
theorem fp33_0 {b o : Nat} (w : World) : (V (Instr.fieldAt 33 (.pointer (some ⟨b, o, none⟩)) 0)).run P w = .ok (.value (.pointer (some ⟨b, o, none⟩))) w := by kernel_rfl
theorem fa33_0 {b o : Nat} {K : Value → C} {pn : Pn} : nextS P (V (Instr.fieldAt 33 (.pointer (some ⟨b, o, none⟩)) 0)) K pn = K (.pointer (some ⟨b, o, none⟩)) := nx_val fun w => fp33_0 w
theorem fp33_1 {b o : Nat} (w : World) : (V (Instr.fieldAt 33 (.pointer (some ⟨b, o, none⟩)) 1)).run P w = .ok (.value (.pointer (some ⟨b, o + 1, none⟩))) w := by kernel_rfl
theorem fa33_1 {b o : Nat} {K : Value → C} {pn : Pn} : nextS P (V (Instr.fieldAt 33 (.pointer (some ⟨b, o, none⟩)) 1)) K pn = K (.pointer (some ⟨b, o + 1, none⟩)) := nx_val fun w => fp33_1 w
theorem fp33_2 {b o : Nat} (w : World) : (V (Instr.fieldAt 33 (.pointer (some ⟨b, o, none⟩)) 2)).run P w = .ok (.value (.pointer (some ⟨b, o + 2, none⟩))) w := by kernel_rfl
theorem fa33_2 {b o : Nat} {K : Value → C} {pn : Pn} : nextS P (V (Instr.fieldAt 33 (.pointer (some ⟨b, o, none⟩)) 2)) K pn = K (.pointer (some ⟨b, o + 2, none⟩)) := nx_val fun w => fp33_2 w
theorem fp44_0 {b o : Nat} (w : World) : (V (Instr.fieldAt 44 (.pointer (some ⟨b, o, none⟩)) 0)).run P w = .ok (.value (.pointer (some ⟨b, o, none⟩))) w := by kernel_rfl
theorem fa44_0 {b o : Nat} {K : Value → C} {pn : Pn} : nextS P (V (Instr.fieldAt 44 (.pointer (some ⟨b, o, none⟩)) 0)) K pn = K (.pointer (some ⟨b, o, none⟩)) := nx_val fun w => fp44_0 w
theorem fp44_1 {b o : Nat} (w : World) : (V (Instr.fieldAt 44 (.pointer (some ⟨b, o, none⟩)) 1)).run P w = .ok (.value (.pointer (some ⟨b, o + 1, none⟩))) w := by kernel_rfl
theorem fa44_1 {b o : Nat} {K : Value → C} {pn : Pn} : nextS P (V (Instr.fieldAt 44 (.pointer (some ⟨b, o, none⟩)) 1)) K pn = K (.pointer (some ⟨b, o + 1, none⟩)) := nx_val fun w => fp44_1 w
theorem fp46_1 {b o : Nat} (w : World) : (V (Instr.fieldAt 46 (.pointer (some ⟨b, o, none⟩)) 1)).run P w = .ok (.value (.pointer (some ⟨b, o + 1, none⟩))) w := by kernel_rfl
theorem fa46_1 {b o : Nat} {K : Value → C} {pn : Pn} : nextS P (V (Instr.fieldAt 46 (.pointer (some ⟨b, o, none⟩)) 1)) K pn = K (.pointer (some ⟨b, o + 1, none⟩)) := nx_val fun w => fp46_1 w
theorem fp46_4 {b o : Nat} (w : World) : (V (Instr.fieldAt 46 (.pointer (some ⟨b, o, none⟩)) 4)).run P w = .ok (.value (.pointer (some ⟨b, o + 4, none⟩))) w := by kernel_rfl
theorem fa46_4 {b o : Nat} {K : Value → C} {pn : Pn} : nextS P (V (Instr.fieldAt 46 (.pointer (some ⟨b, o, none⟩)) 4)) K pn = K (.pointer (some ⟨b, o + 4, none⟩)) := nx_val fun w => fp46_4 w
theorem fp51_0 {b o : Nat} (w : World) : (V (Instr.fieldAt 51 (.pointer (some ⟨b, o, none⟩)) 0)).run P w = .ok (.value (.pointer (some ⟨b, o, none⟩))) w := by kernel_rfl
theorem fa51_0 {b o : Nat} {K : Value → C} {pn : Pn} : nextS P (V (Instr.fieldAt 51 (.pointer (some ⟨b, o, none⟩)) 0)) K pn = K (.pointer (some ⟨b, o, none⟩)) := nx_val fun w => fp51_0 w
theorem fp51_1 {b o : Nat} (w : World) : (V (Instr.fieldAt 51 (.pointer (some ⟨b, o, none⟩)) 1)).run P w = .ok (.value (.pointer (some ⟨b, o + 1, none⟩))) w := by kernel_rfl
theorem fa51_1 {b o : Nat} {K : Value → C} {pn : Pn} : nextS P (V (Instr.fieldAt 51 (.pointer (some ⟨b, o, none⟩)) 1)) K pn = K (.pointer (some ⟨b, o + 1, none⟩)) := nx_val fun w => fp51_1 w
theorem fp51_2 {b o : Nat} (w : World) : (V (Instr.fieldAt 51 (.pointer (some ⟨b, o, none⟩)) 2)).run P w = .ok (.value (.pointer (some ⟨b, o + 2, none⟩))) w := by kernel_rfl
theorem fa51_2 {b o : Nat} {K : Value → C} {pn : Pn} : nextS P (V (Instr.fieldAt 51 (.pointer (some ⟨b, o, none⟩)) 2)) K pn = K (.pointer (some ⟨b, o + 2, none⟩)) := nx_val fun w => fp51_2 w
theorem fp60_0 {b o : Nat} (w : World) : (V (Instr.fieldAt 60 (.pointer (some ⟨b, o, none⟩)) 0)).run P w = .ok (.value (.pointer (some ⟨b, o, none⟩))) w := by kernel_rfl
theorem fa60_0 {b o : Nat} {K : Value → C} {pn : Pn} : nextS P (V (Instr.fieldAt 60 (.pointer (some ⟨b, o, none⟩)) 0)) K pn = K (.pointer (some ⟨b, o, none⟩)) := nx_val fun w => fp60_0 w
theorem fp60_1 {b o : Nat} (w : World) : (V (Instr.fieldAt 60 (.pointer (some ⟨b, o, none⟩)) 1)).run P w = .ok (.value (.pointer (some ⟨b, o + 1, none⟩))) w := by kernel_rfl
theorem fa60_1 {b o : Nat} {K : Value → C} {pn : Pn} : nextS P (V (Instr.fieldAt 60 (.pointer (some ⟨b, o, none⟩)) 1)) K pn = K (.pointer (some ⟨b, o + 1, none⟩)) := nx_val fun w => fp60_1 w
theorem fp60_2 {b o : Nat} (w : World) : (V (Instr.fieldAt 60 (.pointer (some ⟨b, o, none⟩)) 2)).run P w = .ok (.value (.pointer (some ⟨b, o + 2, none⟩))) w := by kernel_rfl
theorem fa60_2 {b o : Nat} {K : Value → C} {pn : Pn} : nextS P (V (Instr.fieldAt 60 (.pointer (some ⟨b, o, none⟩)) 2)) K pn = K (.pointer (some ⟨b, o + 2, none⟩)) := nx_val fun w => fp60_2 w
theorem fp60_3 {b o : Nat} (w : World) : (V (Instr.fieldAt 60 (.pointer (some ⟨b, o, none⟩)) 3)).run P w = .ok (.value (.pointer (some ⟨b, o + 3, none⟩))) w := by kernel_rfl
theorem fa60_3 {b o : Nat} {K : Value → C} {pn : Pn} : nextS P (V (Instr.fieldAt 60 (.pointer (some ⟨b, o, none⟩)) 3)) K pn = K (.pointer (some ⟨b, o + 3, none⟩)) := nx_val fun w => fp60_3 w
theorem fp60_4 {b o : Nat} (w : World) : (V (Instr.fieldAt 60 (.pointer (some ⟨b, o, none⟩)) 4)).run P w = .ok (.value (.pointer (some ⟨b, o + 4, none⟩))) w := by kernel_rfl
theorem fa60_4 {b o : Nat} {K : Value → C} {pn : Pn} : nextS P (V (Instr.fieldAt 60 (.pointer (some ⟨b, o, none⟩)) 4)) K pn = K (.pointer (some ⟨b, o + 4, none⟩)) := nx_val fun w => fp60_4 w
theorem fp60_5 {b o : Nat} (w : World) : (V (Instr.fieldAt 60 (.pointer (some ⟨b, o, none⟩)) 5)).run P w = .ok (.value (.pointer (some ⟨b, o + 5, none⟩))) w := by kernel_rfl
theorem fa60_5 {b o : Nat} {K : Value → C} {pn : Pn} : nextS P (V (Instr.fieldAt 60 (.pointer (some ⟨b, o, none⟩)) 5)) K pn = K (.pointer (some ⟨b, o + 5, none⟩)) := nx_val fun w => fp60_5 w
theorem fp60_6 {b o : Nat} (w : World) : (V (Instr.fieldAt 60 (.pointer (some ⟨b, o, none⟩)) 6)).run P w = .ok (.value (.pointer (some ⟨b, o + 6, none⟩))) w := by kernel_rfl
theorem fa60_6 {b o : Nat} {K : Value → C} {pn : Pn} : nextS P (V (Instr.fieldAt 60 (.pointer (some ⟨b, o, none⟩)) 6)) K pn = K (.pointer (some ⟨b, o + 6, none⟩)) := nx_val fun w => fp60_6 w
theorem fp75_0 {b o : Nat} (w : World) : (V (Instr.fieldAt 75 (.pointer (some ⟨b, o, none⟩)) 0)).run P w = .ok (.value (.pointer (some ⟨b, o, none⟩))) w := by kernel_rfl
theorem fa75_0 {b o : Nat} {K : Value → C} {pn : Pn} : nextS P (V (Instr.fieldAt 75 (.pointer (some ⟨b, o, none⟩)) 0)) K pn = K (.pointer (some ⟨b, o, none⟩)) := nx_val fun w => fp75_0 w
theorem fp75_1 {b o : Nat} (w : World) : (V (Instr.fieldAt 75 (.pointer (some ⟨b, o, none⟩)) 1)).run P w = .ok (.value (.pointer (some ⟨b, o + 1, none⟩))) w := by kernel_rfl
theorem fa75_1 {b o : Nat} {K : Value → C} {pn : Pn} : nextS P (V (Instr.fieldAt 75 (.pointer (some ⟨b, o, none⟩)) 1)) K pn = K (.pointer (some ⟨b, o + 1, none⟩)) := nx_val fun w => fp75_1 w
theorem fp82_0 {b o : Nat} (w : World) : (V (Instr.fieldAt 82 (.pointer (some ⟨b, o, none⟩)) 0)).run P w = .ok (.value (.pointer (some ⟨b, o, none⟩))) w := by kernel_rfl
theorem fa82_0 {b o : Nat} {K : Value → C} {pn : Pn} : nextS P (V (Instr.fieldAt 82 (.pointer (some ⟨b, o, none⟩)) 0)) K pn = K (.pointer (some ⟨b, o, none⟩)) := nx_val fun w => fp82_0 w
theorem fp82_1 {b o : Nat} (w : World) : (V (Instr.fieldAt 82 (.pointer (some ⟨b, o, none⟩)) 1)).run P w = .ok (.value (.pointer (some ⟨b, o + 1, none⟩))) w := by kernel_rfl
theorem fa82_1 {b o : Nat} {K : Value → C} {pn : Pn} : nextS P (V (Instr.fieldAt 82 (.pointer (some ⟨b, o, none⟩)) 1)) K pn = K (.pointer (some ⟨b, o + 1, none⟩)) := nx_val fun w => fp82_1 w
theorem fp91_0 {b o : Nat} (w : World) : (V (Instr.fieldAt 91 (.pointer (some ⟨b, o, none⟩)) 0)).run P w = .ok (.value (.pointer (some ⟨b, o, none⟩))) w := by kernel_rfl
theorem fa91_0 {b o : Nat} {K : Value → C} {pn : Pn} : nextS P (V (Instr.fieldAt 91 (.pointer (some ⟨b, o, none⟩)) 0)) K pn = K (.pointer (some ⟨b, o, none⟩)) := nx_val fun w => fp91_0 w
theorem fp91_1 {b o : Nat} (w : World) : (V (Instr.fieldAt 91 (.pointer (some ⟨b, o, none⟩)) 1)).run P w = .ok (.value (.pointer (some ⟨b, o + 1, none⟩))) w := by kernel_rfl
theorem fa91_1 {b o : Nat} {K : Value → C} {pn : Pn} : nextS P (V (Instr.fieldAt 91 (.pointer (some ⟨b, o, none⟩)) 1)) K pn = K (.pointer (some ⟨b, o + 1, none⟩)) := nx_val fun w => fp91_1 w
theorem fp91_2 {b o : Nat} (w : World) : (V (Instr.fieldAt 91 (.pointer (some ⟨b, o, none⟩)) 2)).run P w = .ok (.value (.pointer (some ⟨b, o + 2, none⟩))) w := by kernel_rfl
theorem fa91_2 {b o : Nat} {K : Value → C} {pn : Pn} : nextS P (V (Instr.fieldAt 91 (.pointer (some ⟨b, o, none⟩)) 2)) K pn = K (.pointer (some ⟨b, o + 2, none⟩)) := nx_val fun w => fp91_2 w
theorem fp94_0 {b o : Nat} (w : World) : (V (Instr.fieldAt 94 (.pointer (some ⟨b, o, none⟩)) 0)).run P w = .ok (.value (.pointer (some ⟨b, o, none⟩))) w := by kernel_rfl
theorem fa94_0 {b o : Nat} {K : Value → C} {pn : Pn} : nextS P (V (Instr.fieldAt 94 (.pointer (some ⟨b, o, none⟩)) 0)) K pn = K (.pointer (some ⟨b, o, none⟩)) := nx_val fun w => fp94_0 w
theorem fp96_0 {b o : Nat} (w : World) : (V (Instr.fieldAt 96 (.pointer (some ⟨b, o, none⟩)) 0)).run P w = .ok (.value (.pointer (some ⟨b, o, none⟩))) w := by kernel_rfl
theorem fa96_0 {b o : Nat} {K : Value → C} {pn : Pn} : nextS P (V (Instr.fieldAt 96 (.pointer (some ⟨b, o, none⟩)) 0)) K pn = K (.pointer (some ⟨b, o, none⟩)) := nx_val fun w => fp96_0 w
theorem fp96_1 {b o : Nat} (w : World) : (V (Instr.fieldAt 96 (.pointer (some ⟨b, o, none⟩)) 1)).run P w = .ok (.value (.pointer (some ⟨b, o + 1, none⟩))) w := by kernel_rfl
theorem fa96_1 {b o : Nat} {K : Value → C} {pn : Pn} : nextS P (V (Instr.fieldAt 96 (.pointer (some ⟨b, o, none⟩)) 1)) K pn = K (.pointer (some ⟨b, o + 1, none⟩)) := nx_val fun w => fp96_1 w
theorem fp99_0 {b o : Nat} (w : World) : (V (Instr.fieldAt 99 (.pointer (some ⟨b, o, none⟩)) 0)).run P w = .ok (.value (.pointer (some ⟨b, o, none⟩))) w := by kernel_rfl
theorem fa99_0 {b o : Nat} {K : Value → C} {pn : Pn} : nextS P (V (Instr.fieldAt 99 (.pointer (some ⟨b, o, none⟩)) 0)) K pn = K (.pointer (some ⟨b, o, none⟩)) := nx_val fun w => fp99_0 w
theorem fp99_1 {b o : Nat} (w : World) : (V (Instr.fieldAt 99 (.pointer (some ⟨b, o, none⟩)) 1)).run P w = .ok (.value (.pointer (some ⟨b, o + 1, none⟩))) w := by kernel_rfl
theorem fa99_1 {b o : Nat} {K : Value → C} {pn : Pn} : nextS P (V (Instr.fieldAt 99 (.pointer (some ⟨b, o, none⟩)) 1)) K pn = K (.pointer (some ⟨b, o + 1, none⟩)) := nx_val fun w => fp99_1 w
theorem fp99_2 {b o : Nat} (w : World) : (V (Instr.fieldAt 99 (.pointer (some ⟨b, o, none⟩)) 2)).run P w = .ok (.value (.pointer (some ⟨b, o + 2, none⟩))) w := by kernel_rfl
theorem fa99_2 {b o : Nat} {K : Value → C} {pn : Pn} : nextS P (V (Instr.fieldAt 99 (.pointer (some ⟨b, o, none⟩)) 2)) K pn = K (.pointer (some ⟨b, o + 2, none⟩)) := nx_val fun w => fp99_2 w
theorem fp137_0 {b o : Nat} (w : World) : (V (Instr.fieldAt 137 (.pointer (some ⟨b, o, none⟩)) 0)).run P w = .ok (.value (.pointer (some ⟨b, o, none⟩))) w := by kernel_rfl
theorem fa137_0 {b o : Nat} {K : Value → C} {pn : Pn} : nextS P (V (Instr.fieldAt 137 (.pointer (some ⟨b, o, none⟩)) 0)) K pn = K (.pointer (some ⟨b, o, none⟩)) := nx_val fun w => fp137_0 w
/-- All of them under one name, for simp. -/
theorem pureT :
    (∀ (s : ByteArray) (ty : TypeId) (cons : Array Bool) (K : Value → C) (pn : Pn), nextS P (bltN .len #[9] ty cons #[.string s]) K pn = K (.int .i64 s.size)) ∧
    (∀ (a : Option Addr) (n c : Nat) (ty : TypeId) (cons : Array Bool) (K : Value → C) (pn : Pn), nextS P (bltN .len #[22] ty cons #[.slice a n c]) K pn = K (.int .i64 n)) ∧
    (∀ (a : Option Addr) (n c : Nat) (ty : TypeId) (cons : Array Bool) (K : Value → C) (pn : Pn), nextS P (bltN .len #[25] ty cons #[.slice a n c]) K pn = K (.int .i64 n)) ∧
    (∀ (a : Option Addr) (n c : Nat) (ty : TypeId) (cons : Array Bool) (K : Value → C) (pn : Pn), nextS P (bltN .len #[26] ty cons #[.slice a n c]) K pn = K (.int .i64 n)) ∧
    (∀ (a : Option Addr) (n c : Nat) (ty : TypeId) (cons : Array Bool) (K : Value → C) (pn : Pn), nextS P (bltN .len #[27] ty cons #[.slice a n c]) K pn = K (.int .i64 n)) ∧
    (∀ (a : Option Addr) (n c : Nat) (ty : TypeId) (cons : Array Bool) (K : Value → C) (pn : Pn), nextS P (bltN .len #[34] ty cons #[.slice a n c]) K pn = K (.int .i64 n)) ∧
    (∀ (a : Option Addr) (n c : Nat) (ty : TypeId) (cons : Array Bool) (K : Value → C) (pn : Pn), nextS P (bltN .len #[35] ty cons #[.slice a n c]) K pn = K (.int .i64 n)) ∧
    (∀ (a : Option Addr) (n c : Nat) (ty : TypeId) (cons : Array Bool) (K : Value → C) (pn : Pn), nextS P (bltN .len #[40] ty cons #[.slice a n c]) K pn = K (.int .i64 n)) ∧
    (∀ (a : Option Addr) (n c : Nat) (ty : TypeId) (cons : Array Bool) (K : Value → C) (pn : Pn), nextS P (bltN .len #[63] ty cons #[.slice a n c]) K pn = K (.int .i64 n)) ∧
    (∀ (a : Option Addr) (n c : Nat) (ty : TypeId) (cons : Array Bool) (K : Value → C) (pn : Pn), nextS P (bltN .len #[80] ty cons #[.slice a n c]) K pn = K (.int .i64 n)) ∧
    (∀ (a : Option Addr) (n c : Nat) (ty : TypeId) (cons : Array Bool) (K : Value → C) (pn : Pn), nextS P (bltN .len #[92] ty cons #[.slice a n c]) K pn = K (.int .i64 n)) ∧
    (∀ (a : Option Addr) (n c : Nat) (ty : TypeId) (cons : Array Bool) (K : Value → C) (pn : Pn), nextS P (bltN .len #[108] ty cons #[.slice a n c]) K pn = K (.int .i64 n)) ∧
    (∀ (b o : Nat) (K : Value → C) (pn : Pn), nextS P (V (Instr.fieldAt 24 (.pointer (some ⟨b, o, none⟩)) 0)) K pn = K (.pointer (some ⟨b, o, none⟩))) ∧
    (∀ (b o : Nat) (K : Value → C), pureS P (V (Instr.fieldAt 24 (.pointer (some ⟨b, o, none⟩)) 0)) K = K (.pointer (some ⟨b, o, none⟩))) ∧
    (∀ (b o : Nat) (K : Value → C) (pn : Pn), nextS P (V (Instr.fieldAt 33 (.pointer (some ⟨b, o, none⟩)) 0)) K pn = K (.pointer (some ⟨b, o, none⟩))) ∧
    (∀ (b o : Nat) (K : Value → C), pureS P (V (Instr.fieldAt 33 (.pointer (some ⟨b, o, none⟩)) 0)) K = K (.pointer (some ⟨b, o, none⟩))) ∧
    (∀ (b o : Nat) (K : Value → C) (pn : Pn), nextS P (V (Instr.fieldAt 33 (.pointer (some ⟨b, o, none⟩)) 1)) K pn = K (.pointer (some ⟨b, o + 1, none⟩))) ∧
    (∀ (b o : Nat) (K : Value → C), pureS P (V (Instr.fieldAt 33 (.pointer (some ⟨b, o, none⟩)) 1)) K = K (.pointer (some ⟨b, o + 1, none⟩))) ∧
    (∀ (b o : Nat) (K : Value → C) (pn : Pn), nextS P (V (Instr.fieldAt 33 (.pointer (some ⟨b, o, none⟩)) 2)) K pn = K (.pointer (some ⟨b, o + 2, none⟩))) ∧
    (∀ (b o : Nat) (K : Value → C), pureS P (V (Instr.fieldAt 33 (.pointer (some ⟨b, o, none⟩)) 2)) K = K (.pointer (some ⟨b, o + 2, none⟩))) ∧
    (∀ (b o : Nat) (K : Value → C) (pn : Pn), nextS P (V (Instr.fieldAt 44 (.pointer (some ⟨b, o, none⟩)) 0)) K pn = K (.pointer (some ⟨b, o, none⟩))) ∧
    (∀ (b o : Nat) (K : Value → C), pureS P (V (Instr.fieldAt 44 (.pointer (some ⟨b, o, none⟩)) 0)) K = K (.pointer (some ⟨b, o, none⟩))) ∧
    (∀ (b o : Nat) (K : Value → C) (pn : Pn), nextS P (V (Instr.fieldAt 44 (.pointer (some ⟨b, o, none⟩)) 1)) K pn = K (.pointer (some ⟨b, o + 1, none⟩))) ∧
    (∀ (b o : Nat) (K : Value → C), pureS P (V (Instr.fieldAt 44 (.pointer (some ⟨b, o, none⟩)) 1)) K = K (.pointer (some ⟨b, o + 1, none⟩))) ∧
    (∀ (b o : Nat) (K : Value → C) (pn : Pn), nextS P (V (Instr.fieldAt 46 (.pointer (some ⟨b, o, none⟩)) 1)) K pn = K (.pointer (some ⟨b, o + 1, none⟩))) ∧
    (∀ (b o : Nat) (K : Value → C), pureS P (V (Instr.fieldAt 46 (.pointer (some ⟨b, o, none⟩)) 1)) K = K (.pointer (some ⟨b, o + 1, none⟩))) ∧
    (∀ (b o : Nat) (K : Value → C) (pn : Pn), nextS P (V (Instr.fieldAt 46 (.pointer (some ⟨b, o, none⟩)) 4)) K pn = K (.pointer (some ⟨b, o + 4, none⟩))) ∧
    (∀ (b o : Nat) (K : Value → C), pureS P (V (Instr.fieldAt 46 (.pointer (some ⟨b, o, none⟩)) 4)) K = K (.pointer (some ⟨b, o + 4, none⟩))) ∧
    (∀ (b o : Nat) (K : Value → C) (pn : Pn), nextS P (V (Instr.fieldAt 51 (.pointer (some ⟨b, o, none⟩)) 0)) K pn = K (.pointer (some ⟨b, o, none⟩))) ∧
    (∀ (b o : Nat) (K : Value → C), pureS P (V (Instr.fieldAt 51 (.pointer (some ⟨b, o, none⟩)) 0)) K = K (.pointer (some ⟨b, o, none⟩))) ∧
    (∀ (b o : Nat) (K : Value → C) (pn : Pn), nextS P (V (Instr.fieldAt 51 (.pointer (some ⟨b, o, none⟩)) 1)) K pn = K (.pointer (some ⟨b, o + 1, none⟩))) ∧
    (∀ (b o : Nat) (K : Value → C), pureS P (V (Instr.fieldAt 51 (.pointer (some ⟨b, o, none⟩)) 1)) K = K (.pointer (some ⟨b, o + 1, none⟩))) ∧
    (∀ (b o : Nat) (K : Value → C) (pn : Pn), nextS P (V (Instr.fieldAt 51 (.pointer (some ⟨b, o, none⟩)) 2)) K pn = K (.pointer (some ⟨b, o + 2, none⟩))) ∧
    (∀ (b o : Nat) (K : Value → C), pureS P (V (Instr.fieldAt 51 (.pointer (some ⟨b, o, none⟩)) 2)) K = K (.pointer (some ⟨b, o + 2, none⟩))) ∧
    (∀ (b o : Nat) (K : Value → C) (pn : Pn), nextS P (V (Instr.fieldAt 60 (.pointer (some ⟨b, o, none⟩)) 0)) K pn = K (.pointer (some ⟨b, o, none⟩))) ∧
    (∀ (b o : Nat) (K : Value → C), pureS P (V (Instr.fieldAt 60 (.pointer (some ⟨b, o, none⟩)) 0)) K = K (.pointer (some ⟨b, o, none⟩))) ∧
    (∀ (b o : Nat) (K : Value → C) (pn : Pn), nextS P (V (Instr.fieldAt 60 (.pointer (some ⟨b, o, none⟩)) 1)) K pn = K (.pointer (some ⟨b, o + 1, none⟩))) ∧
    (∀ (b o : Nat) (K : Value → C), pureS P (V (Instr.fieldAt 60 (.pointer (some ⟨b, o, none⟩)) 1)) K = K (.pointer (some ⟨b, o + 1, none⟩))) ∧
    (∀ (b o : Nat) (K : Value → C) (pn : Pn), nextS P (V (Instr.fieldAt 60 (.pointer (some ⟨b, o, none⟩)) 2)) K pn = K (.pointer (some ⟨b, o + 2, none⟩))) ∧
    (∀ (b o : Nat) (K : Value → C), pureS P (V (Instr.fieldAt 60 (.pointer (some ⟨b, o, none⟩)) 2)) K = K (.pointer (some ⟨b, o + 2, none⟩))) ∧
    (∀ (b o : Nat) (K : Value → C) (pn : Pn), nextS P (V (Instr.fieldAt 60 (.pointer (some ⟨b, o, none⟩)) 3)) K pn = K (.pointer (some ⟨b, o + 3, none⟩))) ∧
    (∀ (b o : Nat) (K : Value → C), pureS P (V (Instr.fieldAt 60 (.pointer (some ⟨b, o, none⟩)) 3)) K = K (.pointer (some ⟨b, o + 3, none⟩))) ∧
    (∀ (b o : Nat) (K : Value → C) (pn : Pn), nextS P (V (Instr.fieldAt 60 (.pointer (some ⟨b, o, none⟩)) 4)) K pn = K (.pointer (some ⟨b, o + 4, none⟩))) ∧
    (∀ (b o : Nat) (K : Value → C), pureS P (V (Instr.fieldAt 60 (.pointer (some ⟨b, o, none⟩)) 4)) K = K (.pointer (some ⟨b, o + 4, none⟩))) ∧
    (∀ (b o : Nat) (K : Value → C) (pn : Pn), nextS P (V (Instr.fieldAt 60 (.pointer (some ⟨b, o, none⟩)) 5)) K pn = K (.pointer (some ⟨b, o + 5, none⟩))) ∧
    (∀ (b o : Nat) (K : Value → C), pureS P (V (Instr.fieldAt 60 (.pointer (some ⟨b, o, none⟩)) 5)) K = K (.pointer (some ⟨b, o + 5, none⟩))) ∧
    (∀ (b o : Nat) (K : Value → C) (pn : Pn), nextS P (V (Instr.fieldAt 60 (.pointer (some ⟨b, o, none⟩)) 6)) K pn = K (.pointer (some ⟨b, o + 6, none⟩))) ∧
    (∀ (b o : Nat) (K : Value → C), pureS P (V (Instr.fieldAt 60 (.pointer (some ⟨b, o, none⟩)) 6)) K = K (.pointer (some ⟨b, o + 6, none⟩))) ∧
    (∀ (b o : Nat) (K : Value → C) (pn : Pn), nextS P (V (Instr.fieldAt 75 (.pointer (some ⟨b, o, none⟩)) 0)) K pn = K (.pointer (some ⟨b, o, none⟩))) ∧
    (∀ (b o : Nat) (K : Value → C), pureS P (V (Instr.fieldAt 75 (.pointer (some ⟨b, o, none⟩)) 0)) K = K (.pointer (some ⟨b, o, none⟩))) ∧
    (∀ (b o : Nat) (K : Value → C) (pn : Pn), nextS P (V (Instr.fieldAt 75 (.pointer (some ⟨b, o, none⟩)) 1)) K pn = K (.pointer (some ⟨b, o + 1, none⟩))) ∧
    (∀ (b o : Nat) (K : Value → C), pureS P (V (Instr.fieldAt 75 (.pointer (some ⟨b, o, none⟩)) 1)) K = K (.pointer (some ⟨b, o + 1, none⟩))) ∧
    (∀ (b o : Nat) (K : Value → C) (pn : Pn), nextS P (V (Instr.fieldAt 82 (.pointer (some ⟨b, o, none⟩)) 0)) K pn = K (.pointer (some ⟨b, o, none⟩))) ∧
    (∀ (b o : Nat) (K : Value → C), pureS P (V (Instr.fieldAt 82 (.pointer (some ⟨b, o, none⟩)) 0)) K = K (.pointer (some ⟨b, o, none⟩))) ∧
    (∀ (b o : Nat) (K : Value → C) (pn : Pn), nextS P (V (Instr.fieldAt 82 (.pointer (some ⟨b, o, none⟩)) 1)) K pn = K (.pointer (some ⟨b, o + 1, none⟩))) ∧
    (∀ (b o : Nat) (K : Value → C), pureS P (V (Instr.fieldAt 82 (.pointer (some ⟨b, o, none⟩)) 1)) K = K (.pointer (some ⟨b, o + 1, none⟩))) ∧
    (∀ (b o : Nat) (K : Value → C) (pn : Pn), nextS P (V (Instr.fieldAt 91 (.pointer (some ⟨b, o, none⟩)) 0)) K pn = K (.pointer (some ⟨b, o, none⟩))) ∧
    (∀ (b o : Nat) (K : Value → C), pureS P (V (Instr.fieldAt 91 (.pointer (some ⟨b, o, none⟩)) 0)) K = K (.pointer (some ⟨b, o, none⟩))) ∧
    (∀ (b o : Nat) (K : Value → C) (pn : Pn), nextS P (V (Instr.fieldAt 91 (.pointer (some ⟨b, o, none⟩)) 1)) K pn = K (.pointer (some ⟨b, o + 1, none⟩))) ∧
    (∀ (b o : Nat) (K : Value → C), pureS P (V (Instr.fieldAt 91 (.pointer (some ⟨b, o, none⟩)) 1)) K = K (.pointer (some ⟨b, o + 1, none⟩))) ∧
    (∀ (b o : Nat) (K : Value → C) (pn : Pn), nextS P (V (Instr.fieldAt 91 (.pointer (some ⟨b, o, none⟩)) 2)) K pn = K (.pointer (some ⟨b, o + 2, none⟩))) ∧
    (∀ (b o : Nat) (K : Value → C), pureS P (V (Instr.fieldAt 91 (.pointer (some ⟨b, o, none⟩)) 2)) K = K (.pointer (some ⟨b, o + 2, none⟩))) ∧
    (∀ (b o : Nat) (K : Value → C) (pn : Pn), nextS P (V (Instr.fieldAt 94 (.pointer (some ⟨b, o, none⟩)) 0)) K pn = K (.pointer (some ⟨b, o, none⟩))) ∧
    (∀ (b o : Nat) (K : Value → C), pureS P (V (Instr.fieldAt 94 (.pointer (some ⟨b, o, none⟩)) 0)) K = K (.pointer (some ⟨b, o, none⟩))) ∧
    (∀ (b o : Nat) (K : Value → C) (pn : Pn), nextS P (V (Instr.fieldAt 96 (.pointer (some ⟨b, o, none⟩)) 0)) K pn = K (.pointer (some ⟨b, o, none⟩))) ∧
    (∀ (b o : Nat) (K : Value → C), pureS P (V (Instr.fieldAt 96 (.pointer (some ⟨b, o, none⟩)) 0)) K = K (.pointer (some ⟨b, o, none⟩))) ∧
    (∀ (b o : Nat) (K : Value → C) (pn : Pn), nextS P (V (Instr.fieldAt 96 (.pointer (some ⟨b, o, none⟩)) 1)) K pn = K (.pointer (some ⟨b, o + 1, none⟩))) ∧
    (∀ (b o : Nat) (K : Value → C), pureS P (V (Instr.fieldAt 96 (.pointer (some ⟨b, o, none⟩)) 1)) K = K (.pointer (some ⟨b, o + 1, none⟩))) ∧
    (∀ (b o : Nat) (K : Value → C) (pn : Pn), nextS P (V (Instr.fieldAt 99 (.pointer (some ⟨b, o, none⟩)) 0)) K pn = K (.pointer (some ⟨b, o, none⟩))) ∧
    (∀ (b o : Nat) (K : Value → C), pureS P (V (Instr.fieldAt 99 (.pointer (some ⟨b, o, none⟩)) 0)) K = K (.pointer (some ⟨b, o, none⟩))) ∧
    (∀ (b o : Nat) (K : Value → C) (pn : Pn), nextS P (V (Instr.fieldAt 99 (.pointer (some ⟨b, o, none⟩)) 1)) K pn = K (.pointer (some ⟨b, o + 1, none⟩))) ∧
    (∀ (b o : Nat) (K : Value → C), pureS P (V (Instr.fieldAt 99 (.pointer (some ⟨b, o, none⟩)) 1)) K = K (.pointer (some ⟨b, o + 1, none⟩))) ∧
    (∀ (b o : Nat) (K : Value → C) (pn : Pn), nextS P (V (Instr.fieldAt 99 (.pointer (some ⟨b, o, none⟩)) 2)) K pn = K (.pointer (some ⟨b, o + 2, none⟩))) ∧
    (∀ (b o : Nat) (K : Value → C), pureS P (V (Instr.fieldAt 99 (.pointer (some ⟨b, o, none⟩)) 2)) K = K (.pointer (some ⟨b, o + 2, none⟩))) ∧
    (∀ (b o : Nat) (K : Value → C) (pn : Pn), nextS P (V (Instr.fieldAt 137 (.pointer (some ⟨b, o, none⟩)) 0)) K pn = K (.pointer (some ⟨b, o, none⟩))) ∧
    (∀ (b o : Nat) (K : Value → C), pureS P (V (Instr.fieldAt 137 (.pointer (some ⟨b, o, none⟩)) 0)) K = K (.pointer (some ⟨b, o, none⟩))) :=
  ⟨by intros; exact len9,
   by intros; exact len22,
   by intros; exact len25,
   by intros; exact len26,
   by intros; exact len27,
   by intros; exact len34,
   by intros; exact len35,
   by intros; exact len40,
   by intros; exact len63,
   by intros; exact len80,
   by intros; exact len92,
   by intros; exact len108,
   by intros; exact fa24_0,
   by intros; exact px_val fun w => fp24_0 w,
   by intros; exact fa33_0,
   by intros; exact px_val fun w => fp33_0 w,
   by intros; exact fa33_1,
   by intros; exact px_val fun w => fp33_1 w,
   by intros; exact fa33_2,
   by intros; exact px_val fun w => fp33_2 w,
   by intros; exact fa44_0,
   by intros; exact px_val fun w => fp44_0 w,
   by intros; exact fa44_1,
   by intros; exact px_val fun w => fp44_1 w,
   by intros; exact fa46_1,
   by intros; exact px_val fun w => fp46_1 w,
   by intros; exact fa46_4,
   by intros; exact px_val fun w => fp46_4 w,
   by intros; exact fa51_0,
   by intros; exact px_val fun w => fp51_0 w,
   by intros; exact fa51_1,
   by intros; exact px_val fun w => fp51_1 w,
   by intros; exact fa51_2,
   by intros; exact px_val fun w => fp51_2 w,
   by intros; exact fa60_0,
   by intros; exact px_val fun w => fp60_0 w,
   by intros; exact fa60_1,
   by intros; exact px_val fun w => fp60_1 w,
   by intros; exact fa60_2,
   by intros; exact px_val fun w => fp60_2 w,
   by intros; exact fa60_3,
   by intros; exact px_val fun w => fp60_3 w,
   by intros; exact fa60_4,
   by intros; exact px_val fun w => fp60_4 w,
   by intros; exact fa60_5,
   by intros; exact px_val fun w => fp60_5 w,
   by intros; exact fa60_6,
   by intros; exact px_val fun w => fp60_6 w,
   by intros; exact fa75_0,
   by intros; exact px_val fun w => fp75_0 w,
   by intros; exact fa75_1,
   by intros; exact px_val fun w => fp75_1 w,
   by intros; exact fa82_0,
   by intros; exact px_val fun w => fp82_0 w,
   by intros; exact fa82_1,
   by intros; exact px_val fun w => fp82_1 w,
   by intros; exact fa91_0,
   by intros; exact px_val fun w => fp91_0 w,
   by intros; exact fa91_1,
   by intros; exact px_val fun w => fp91_1 w,
   by intros; exact fa91_2,
   by intros; exact px_val fun w => fp91_2 w,
   by intros; exact fa94_0,
   by intros; exact px_val fun w => fp94_0 w,
   by intros; exact fa96_0,
   by intros; exact px_val fun w => fp96_0 w,
   by intros; exact fa96_1,
   by intros; exact px_val fun w => fp96_1 w,
   by intros; exact fa99_0,
   by intros; exact px_val fun w => fp99_0 w,
   by intros; exact fa99_1,
   by intros; exact px_val fun w => fp99_1 w,
   by intros; exact fa99_2,
   by intros; exact px_val fun w => fp99_2 w,
   by intros; exact fa137_0,
   by intros; exact px_val fun w => fp137_0 w⟩
theorem r3 {W0 : World} {l : List As} {a0 a1 a2 a3 a4 : Value} {K : Value → C} {pn : Pn} (h : Run W0 l (S3 a0 a1 a2 a3 a4 K pn)) : Run W0 l (callS P 3 #[a0, a1, a2, a3, a4] K pn) := run_call (en3 _) fun w hw => c3 (h w hw)
theorem r4 {W0 : World} {l : List As} {a0 a1 a2 a3 a4 : Value} {K : Value → C} {pn : Pn} (h : Run W0 l (S4 a0 a1 a2 a3 a4 K pn)) : Run W0 l (callS P 4 #[a0, a1, a2, a3, a4] K pn) := run_call (en4 _) fun w hw => c4 (h w hw)
theorem r5 {W0 : World} {l : List As} {a0 a1 a2 a3 a4 : Value} {K : Value → C} {pn : Pn} (h : Run W0 l (S5 a0 a1 a2 a3 a4 K pn)) : Run W0 l (callS P 5 #[a0, a1, a2, a3, a4] K pn) := run_call (en5 _) fun w hw => c5 (h w hw)
theorem r6 {W0 : World} {l : List As} {a0 a1 : Value} {K : Value → C} {pn : Pn} (h : Run W0 l (S6 a0 a1 K pn)) : Run W0 l (callS P 6 #[a0, a1] K pn) := run_call (en6 _) fun w hw => c6 (h w hw)
theorem r7 {W0 : World} {l : List As} {a0 a1 : Value} {K : Value → C} {pn : Pn} (h : Run W0 l (S7 a0 a1 K pn)) : Run W0 l (callS P 7 #[a0, a1] K pn) := run_call (en7 _) fun w hw => c7 (h w hw)
theorem r8 {W0 : World} {l : List As} {a0 : Value} {K : Value → C} {pn : Pn} (h : Run W0 l (S8 a0 K pn)) : Run W0 l (callS P 8 #[a0] K pn) := run_call (en8 _) fun w hw => c8 (h w hw)
theorem r9 {W0 : World} {l : List As} {K : Value → C} {pn : Pn} (h : Run W0 l (S9 K pn)) : Run W0 l (callS P 9 #[] K pn) := run_call (en9 _) fun w hw => c9 (h w hw)
theorem r10 {W0 : World} {l : List As} {a0 : Value} {K : Value → C} {pn : Pn} (h : Run W0 l (S10 a0 K pn)) : Run W0 l (callS P 10 #[a0] K pn) := run_call (en10 _) fun w hw => c10 (h w hw)
theorem r11 {W0 : World} {l : List As} {a0 a1 a2 a3 : Value} {K : Value → C} {pn : Pn} (h : Run W0 l (S11 a0 a1 a2 a3 K pn)) : Run W0 l (callS P 11 #[a0, a1, a2, a3] K pn) := run_call (en11 _) fun w hw => c11 (h w hw)
theorem r12 {W0 : World} {l : List As} {a0 a1 a2 : Value} {K : Value → C} {pn : Pn} (h : Run W0 l (S12 a0 a1 a2 K pn)) : Run W0 l (callS P 12 #[a0, a1, a2] K pn) := run_call (en12 _) fun w hw => c12 (h w hw)
theorem r13 {W0 : World} {l : List As} {a0 a1 : Value} {K : Value → C} {pn : Pn} (h : Run W0 l (S13 a0 a1 K pn)) : Run W0 l (callS P 13 #[a0, a1] K pn) := run_call (en13 _) fun w hw => c13 (h w hw)
theorem r14 {W0 : World} {l : List As} {a0 a1 : Value} {K : Value → C} {pn : Pn} (h : Run W0 l (S14 a0 a1 K pn)) : Run W0 l (callS P 14 #[a0, a1] K pn) := run_call (en14 _) fun w hw => c14 (h w hw)
theorem r15 {W0 : World} {l : List As} {a0 : Value} {K : Value → C} {pn : Pn} (h : Run W0 l (S15 a0 K pn)) : Run W0 l (callS P 15 #[a0] K pn) := run_call (en15 _) fun w hw => c15 (h w hw)
theorem r16 {W0 : World} {l : List As} {K : Value → C} {pn : Pn} (h : Run W0 l (S16 K pn)) : Run W0 l (callS P 16 #[] K pn) := run_call (en16 _) fun w hw => c16 (h w hw)
theorem r17 {W0 : World} {l : List As} {a0 : Value} {K : Value → C} {pn : Pn} (h : Run W0 l (S17 a0 K pn)) : Run W0 l (callS P 17 #[a0] K pn) := run_call (en17 _) fun w hw => c17 (h w hw)
theorem r18 {W0 : World} {l : List As} {a0 : Value} {K : Value → C} {pn : Pn} (h : Run W0 l (S18 a0 K pn)) : Run W0 l (callS P 18 #[a0] K pn) := run_call (en18 _) fun w hw => c18 (h w hw)
theorem r19 {W0 : World} {l : List As} {a0 : Value} {K : Value → C} {pn : Pn} (h : Run W0 l (S19 a0 K pn)) : Run W0 l (callS P 19 #[a0] K pn) := run_call (en19 _) fun w hw => c19 (h w hw)
theorem r20 {W0 : World} {l : List As} {a0 : Value} {K : Value → C} {pn : Pn} (h : Run W0 l (S20 a0 K pn)) : Run W0 l (callS P 20 #[a0] K pn) := run_call (en20 _) fun w hw => c20 (h w hw)
theorem r21 {W0 : World} {l : List As} {a0 : Value} {K : Value → C} {pn : Pn} (h : Run W0 l (S21 a0 K pn)) : Run W0 l (callS P 21 #[a0] K pn) := run_call (en21 _) fun w hw => c21 (h w hw)
theorem r22 {W0 : World} {l : List As} {a0 a1 a2 : Value} {K : Value → C} {pn : Pn} (h : Run W0 l (S22 a0 a1 a2 K pn)) : Run W0 l (callS P 22 #[a0, a1, a2] K pn) := run_call (en22 _) fun w hw => c22 (h w hw)
theorem r23 {W0 : World} {l : List As} {a0 a1 a2 : Value} {K : Value → C} {pn : Pn} (h : Run W0 l (S23 a0 a1 a2 K pn)) : Run W0 l (callS P 23 #[a0, a1, a2] K pn) := run_call (en23 _) fun w hw => c23 (h w hw)
theorem r24 {W0 : World} {l : List As} {a0 a1 : Value} {K : Value → C} {pn : Pn} (h : Run W0 l (S24 a0 a1 K pn)) : Run W0 l (callS P 24 #[a0, a1] K pn) := run_call (en24 _) fun w hw => c24 (h w hw)
theorem r25 {W0 : World} {l : List As} {a0 : Value} {K : Value → C} {pn : Pn} (h : Run W0 l (S25 a0 K pn)) : Run W0 l (callS P 25 #[a0] K pn) := run_call (en25 _) fun w hw => c25 (h w hw)
theorem r26 {W0 : World} {l : List As} {a0 a1 a2 : Value} {K : Value → C} {pn : Pn} (h : Run W0 l (S26 a0 a1 a2 K pn)) : Run W0 l (callS P 26 #[a0, a1, a2] K pn) := run_call (en26 _) fun w hw => c26 (h w hw)
theorem r27 {W0 : World} {l : List As} {a0 a1 : Value} {K : Value → C} {pn : Pn} (h : Run W0 l (S27 a0 a1 K pn)) : Run W0 l (callS P 27 #[a0, a1] K pn) := run_call (en27 _) fun w hw => c27 (h w hw)
theorem r28 {W0 : World} {l : List As} {a0 a1 : Value} {K : Value → C} {pn : Pn} (h : Run W0 l (S28 a0 a1 K pn)) : Run W0 l (callS P 28 #[a0, a1] K pn) := run_call (en28 _) fun w hw => c28 (h w hw)
theorem r29 {W0 : World} {l : List As} {a0 a1 a2 : Value} {K : Value → C} {pn : Pn} (h : Run W0 l (S29 a0 a1 a2 K pn)) : Run W0 l (callS P 29 #[a0, a1, a2] K pn) := run_call (en29 _) fun w hw => c29 (h w hw)
theorem r30 {W0 : World} {l : List As} {a0 : Value} {K : Value → C} {pn : Pn} (h : Run W0 l (S30 a0 K pn)) : Run W0 l (callS P 30 #[a0] K pn) := run_call (en30 _) fun w hw => c30 (h w hw)
theorem r31 {W0 : World} {l : List As} {a0 a1 : Value} {K : Value → C} {pn : Pn} (h : Run W0 l (S31 a0 a1 K pn)) : Run W0 l (callS P 31 #[a0, a1] K pn) := run_call (en31 _) fun w hw => c31 (h w hw)
theorem r32 {W0 : World} {l : List As} {a0 a1 : Value} {K : Value → C} {pn : Pn} (h : Run W0 l (S32 a0 a1 K pn)) : Run W0 l (callS P 32 #[a0, a1] K pn) := run_call (en32 _) fun w hw => c32 (h w hw)
theorem r33 {W0 : World} {l : List As} {a0 : Value} {K : Value → C} {pn : Pn} (h : Run W0 l (S33 a0 K pn)) : Run W0 l (callS P 33 #[a0] K pn) := run_call (en33 _) fun w hw => c33 (h w hw)
theorem r34 {W0 : World} {l : List As} {a0 a1 : Value} {K : Value → C} {pn : Pn} (h : Run W0 l (S34 a0 a1 K pn)) : Run W0 l (callS P 34 #[a0, a1] K pn) := run_call (en34 _) fun w hw => c34 (h w hw)
theorem r35 {W0 : World} {l : List As} {a0 a1 a2 : Value} {K : Value → C} {pn : Pn} (h : Run W0 l (S35 a0 a1 a2 K pn)) : Run W0 l (callS P 35 #[a0, a1, a2] K pn) := run_call (en35 _) fun w hw => c35 (h w hw)
theorem r36 {W0 : World} {l : List As} {a0 a1 : Value} {K : Value → C} {pn : Pn} (h : Run W0 l (S36 a0 a1 K pn)) : Run W0 l (callS P 36 #[a0, a1] K pn) := run_call (en36 _) fun w hw => c36 (h w hw)
theorem r37 {W0 : World} {l : List As} {a0 a1 : Value} {K : Value → C} {pn : Pn} (h : Run W0 l (S37 a0 a1 K pn)) : Run W0 l (callS P 37 #[a0, a1] K pn) := run_call (en37 _) fun w hw => c37 (h w hw)
theorem r38 {W0 : World} {l : List As} {a0 a1 a2 : Value} {K : Value → C} {pn : Pn} (h : Run W0 l (S38 a0 a1 a2 K pn)) : Run W0 l (callS P 38 #[a0, a1, a2] K pn) := run_call (en38 _) fun w hw => c38 (h w hw)
theorem r39 {W0 : World} {l : List As} {a0 a1 a2 : Value} {K : Value → C} {pn : Pn} (h : Run W0 l (S39 a0 a1 a2 K pn)) : Run W0 l (callS P 39 #[a0, a1, a2] K pn) := run_call (en39 _) fun w hw => c39 (h w hw)
theorem r40 {W0 : World} {l : List As} {a0 a1 : Value} {K : Value → C} {pn : Pn} (h : Run W0 l (S40 a0 a1 K pn)) : Run W0 l (callS P 40 #[a0, a1] K pn) := run_call (en40 _) fun w hw => c40 (h w hw)
theorem r41 {W0 : World} {l : List As} {a0 a1 : Value} {K : Value → C} {pn : Pn} (h : Run W0 l (S41 a0 a1 K pn)) : Run W0 l (callS P 41 #[a0, a1] K pn) := run_call (en41 _) fun w hw => c41 (h w hw)
theorem r42 {W0 : World} {l : List As} {a0 : Value} {K : Value → C} {pn : Pn} (h : Run W0 l (S42 a0 K pn)) : Run W0 l (callS P 42 #[a0] K pn) := run_call (en42 _) fun w hw => c42 (h w hw)
theorem r44 {W0 : World} {l : List As} {a0 : Value} {K : Value → C} {pn : Pn} (h : Run W0 l (S44 a0 K pn)) : Run W0 l (callS P 44 #[a0] K pn) := run_call (en44 _) fun w hw => c44 (h w hw)
theorem r45 {W0 : World} {l : List As} {a0 : Value} {K : Value → C} {pn : Pn} (h : Run W0 l (S45 a0 K pn)) : Run W0 l (callS P 45 #[a0] K pn) := run_call (en45 _) fun w hw => c45 (h w hw)
theorem r48 {W0 : World} {l : List As} {a0 a1 a2 : Value} {K : Value → C} {pn : Pn} (h : Run W0 l (S48 a0 a1 a2 K pn)) : Run W0 l (callS P 48 #[a0, a1, a2] K pn) := run_call (en48 _) fun w hw => c48 (h w hw)
theorem r49 {W0 : World} {l : List As} {a0 a1 a2 : Value} {K : Value → C} {pn : Pn} (h : Run W0 l (S49 a0 a1 a2 K pn)) : Run W0 l (callS P 49 #[a0, a1, a2] K pn) := run_call (en49 _) fun w hw => c49 (h w hw)
theorem r50 {W0 : World} {l : List As} {a0 : Value} {K : Value → C} {pn : Pn} (h : Run W0 l (S50 a0 K pn)) : Run W0 l (callS P 50 #[a0] K pn) := run_call (en50 _) fun w hw => c50 (h w hw)
theorem r51 {W0 : World} {l : List As} {a0 : Value} {K : Value → C} {pn : Pn} (h : Run W0 l (S51 a0 K pn)) : Run W0 l (callS P 51 #[a0] K pn) := run_call (en51 _) fun w hw => c51 (h w hw)
theorem r52 {W0 : World} {l : List As} {a0 a1 : Value} {K : Value → C} {pn : Pn} (h : Run W0 l (S52 a0 a1 K pn)) : Run W0 l (callS P 52 #[a0, a1] K pn) := run_call (en52 _) fun w hw => c52 (h w hw)
theorem r55 {W0 : World} {l : List As} {a0 : Value} {K : Value → C} {pn : Pn} (h : Run W0 l (S55 a0 K pn)) : Run W0 l (callS P 55 #[a0] K pn) := run_call (en55 _) fun w hw => c55 (h w hw)
theorem r58 {W0 : World} {l : List As} {a0 a1 : Value} {K : Value → C} {pn : Pn} (h : Run W0 l (S58 a0 a1 K pn)) : Run W0 l (callS P 58 #[a0, a1] K pn) := run_call (en58 _) fun w hw => c58 (h w hw)
theorem r59 {W0 : World} {l : List As} {a0 : Value} {K : Value → C} {pn : Pn} (h : Run W0 l (S59 a0 K pn)) : Run W0 l (callS P 59 #[a0] K pn) := run_call (en59 _) fun w hw => c59 (h w hw)
theorem r65 {W0 : World} {l : List As} {a0 a1 : Value} {K : Value → C} {pn : Pn} (h : Run W0 l (S65 a0 a1 K pn)) : Run W0 l (callS P 65 #[a0, a1] K pn) := run_call (en65 _) fun w hw => c65 (h w hw)
theorem r66 {W0 : World} {l : List As} {a0 a1 : Value} {K : Value → C} {pn : Pn} (h : Run W0 l (S66 a0 a1 K pn)) : Run W0 l (callS P 66 #[a0, a1] K pn) := run_call (en66 _) fun w hw => c66 (h w hw)
theorem r67 {W0 : World} {l : List As} {a0 a1 : Value} {K : Value → C} {pn : Pn} (h : Run W0 l (S67 a0 a1 K pn)) : Run W0 l (callS P 67 #[a0, a1] K pn) := run_call (en67 _) fun w hw => c67 (h w hw)
theorem r68 {W0 : World} {l : List As} {a0 a1 : Value} {K : Value → C} {pn : Pn} (h : Run W0 l (S68 a0 a1 K pn)) : Run W0 l (callS P 68 #[a0, a1] K pn) := run_call (en68 _) fun w hw => c68 (h w hw)
theorem r75 {W0 : World} {l : List As} {a0 a1 : Value} {K : Value → C} {pn : Pn} (h : Run W0 l (S75 a0 a1 K pn)) : Run W0 l (callS P 75 #[a0, a1] K pn) := run_call (en75 _) fun w hw => c75 (h w hw)
theorem r76 {W0 : World} {l : List As} {a0 a1 a2 a3 : Value} {K : Value → C} {pn : Pn} (h : Run W0 l (S76 a0 a1 a2 a3 K pn)) : Run W0 l (callS P 76 #[a0, a1, a2, a3] K pn) := run_call (en76 _) fun w hw => c76 (h w hw)
theorem r77 {W0 : World} {l : List As} {a0 a1 : Value} {K : Value → C} {pn : Pn} (h : Run W0 l (S77 a0 a1 K pn)) : Run W0 l (callS P 77 #[a0, a1] K pn) := run_call (en77 _) fun w hw => c77 (h w hw)
theorem r78 {W0 : World} {l : List As} {a0 a1 : Value} {K : Value → C} {pn : Pn} (h : Run W0 l (S78 a0 a1 K pn)) : Run W0 l (callS P 78 #[a0, a1] K pn) := run_call (en78 _) fun w hw => c78 (h w hw)
theorem r79 {W0 : World} {l : List As} {a0 : Value} {K : Value → C} {pn : Pn} (h : Run W0 l (S79 a0 K pn)) : Run W0 l (callS P 79 #[a0] K pn) := run_call (en79 _) fun w hw => c79 (h w hw)
theorem r81 {W0 : World} {l : List As} {a0 a1 a2 a3 : Value} {K : Value → C} {pn : Pn} (h : Run W0 l (S81 a0 a1 a2 a3 K pn)) : Run W0 l (callS P 81 #[a0, a1, a2, a3] K pn) := run_call (en81 _) fun w hw => c81 (h w hw)
theorem r82 {W0 : World} {l : List As} {a0 : Value} {K : Value → C} {pn : Pn} (h : Run W0 l (S82 a0 K pn)) : Run W0 l (callS P 82 #[a0] K pn) := run_call (en82 _) fun w hw => c82 (h w hw)
theorem r83 {W0 : World} {l : List As} {a0 a1 : Value} {K : Value → C} {pn : Pn} (h : Run W0 l (S83 a0 a1 K pn)) : Run W0 l (callS P 83 #[a0, a1] K pn) := run_call (en83 _) fun w hw => c83 (h w hw)
theorem r84 {W0 : World} {l : List As} {a0 a1 a2 : Value} {K : Value → C} {pn : Pn} (h : Run W0 l (S84 a0 a1 a2 K pn)) : Run W0 l (callS P 84 #[a0, a1, a2] K pn) := run_call (en84 _) fun w hw => c84 (h w hw)
theorem r85 {W0 : World} {l : List As} {a0 : Value} {K : Value → C} {pn : Pn} (h : Run W0 l (S85 a0 K pn)) : Run W0 l (callS P 85 #[a0] K pn) := run_call (en85 _) fun w hw => c85 (h w hw)
theorem r90 {W0 : World} {l : List As} {a0 a1 a2 : Value} {K : Value → C} {pn : Pn} (h : Run W0 l (S90 a0 a1 a2 K pn)) : Run W0 l (callS P 90 #[a0, a1, a2] K pn) := run_call (en90 _) fun w hw => c90 (h w hw)
theorem r92 {W0 : World} {l : List As} {a0 : Value} {K : Value → C} {pn : Pn} (h : Run W0 l (S92 a0 K pn)) : Run W0 l (callS P 92 #[a0] K pn) := run_call (en92 _) fun w hw => c92 (h w hw)
theorem r93 {W0 : World} {l : List As} {a0 : Value} {K : Value → C} {pn : Pn} (h : Run W0 l (S93 a0 K pn)) : Run W0 l (callS P 93 #[a0] K pn) := run_call (en93 _) fun w hw => c93 (h w hw)
theorem r94 {W0 : World} {l : List As} {a0 a1 : Value} {K : Value → C} {pn : Pn} (h : Run W0 l (S94 a0 a1 K pn)) : Run W0 l (callS P 94 #[a0, a1] K pn) := run_call (en94 _) fun w hw => c94 (h w hw)
theorem r95 {W0 : World} {l : List As} {a0 a1 : Value} {K : Value → C} {pn : Pn} (h : Run W0 l (S95 a0 a1 K pn)) : Run W0 l (callS P 95 #[a0, a1] K pn) := run_call (en95 _) fun w hw => c95 (h w hw)
theorem r96 {W0 : World} {l : List As} {a0 a1 : Value} {K : Value → C} {pn : Pn} (h : Run W0 l (S96 a0 a1 K pn)) : Run W0 l (callS P 96 #[a0, a1] K pn) := run_call (en96 _) fun w hw => c96 (h w hw)
theorem r97 {W0 : World} {l : List As} {a0 a1 : Value} {K : Value → C} {pn : Pn} (h : Run W0 l (S97 a0 a1 K pn)) : Run W0 l (callS P 97 #[a0, a1] K pn) := run_call (en97 _) fun w hw => c97 (h w hw)
theorem r98 {W0 : World} {l : List As} {a0 a1 : Value} {K : Value → C} {pn : Pn} (h : Run W0 l (S98 a0 a1 K pn)) : Run W0 l (callS P 98 #[a0, a1] K pn) := run_call (en98 _) fun w hw => c98 (h w hw)
theorem r99 {W0 : World} {l : List As} {a0 a1 : Value} {K : Value → C} {pn : Pn} (h : Run W0 l (S99 a0 a1 K pn)) : Run W0 l (callS P 99 #[a0, a1] K pn) := run_call (en99 _) fun w hw => c99 (h w hw)
theorem r100 {W0 : World} {l : List As} {a0 a1 : Value} {K : Value → C} {pn : Pn} (h : Run W0 l (S100 a0 a1 K pn)) : Run W0 l (callS P 100 #[a0, a1] K pn) := run_call (en100 _) fun w hw => c100 (h w hw)
theorem r101 {W0 : World} {l : List As} {a0 a1 : Value} {K : Value → C} {pn : Pn} (h : Run W0 l (S101 a0 a1 K pn)) : Run W0 l (callS P 101 #[a0, a1] K pn) := run_call (en101 _) fun w hw => c101 (h w hw)
theorem r102 {W0 : World} {l : List As} {a0 a1 : Value} {K : Value → C} {pn : Pn} (h : Run W0 l (S102 a0 a1 K pn)) : Run W0 l (callS P 102 #[a0, a1] K pn) := run_call (en102 _) fun w hw => c102 (h w hw)
theorem r104 {W0 : World} {l : List As} {a0 : Value} {K : Value → C} {pn : Pn} (h : Run W0 l (S104 a0 K pn)) : Run W0 l (callS P 104 #[a0] K pn) := run_call (en104 _) fun w hw => c104 (h w hw)
end Go.Proofs.YtkonigmefmgepaaDoor
