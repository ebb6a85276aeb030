/- Closed facts on the types of the loaded program, written by wip/facts.py. -/
import Derived.Test.YtkonigmefmgepaaGreatDoorFwE
import Derived.Test.YtkonigmefmgepaaGreatDoorS0
import Derived.Test.YtkonigmefmgepaaGreatDoorS1
import Derived.Test.YtkonigmefmgepaaGreatDoorS2
import Derived.Test.YtkonigmefmgepaaGreatDoorS3
namespace Go.Proofs.YtkonigmefmgepaaGreatDoor
set_option maxRecDepth 100000
theorem ty0 : tyI P 0 = some (1, 0, some (.tuple #[])) := by kernel_rfl
theorem ty1 : tyI P 1 = some (1, 8, some (.nilFunc)) := by kernel_rfl
theorem sc1 : scal P 1 = true := by kernel_rfl
theorem un2 : P.underlying 2 = some (.int .i64) := by kernel_rfl
theorem ty2 : tyI P 2 = some (1, 8, some (.int .i64 0)) := by kernel_rfl
theorem sc2 : scal P 2 = true := by kernel_rfl
theorem un3 : P.underlying 3 = some (.int .i64) := by kernel_rfl
theorem ty3 : tyI P 3 = some (1, 8, some (.int .i64 0)) := by kernel_rfl
theorem sc3 : scal P 3 = true := by kernel_rfl
theorem un4 : P.underlying 4 = some (.bool) := by kernel_rfl
theorem ty4 : tyI P 4 = some (1, 1, some (.bool false)) := by kernel_rfl
theorem sc4 : scal P 4 = true := by kernel_rfl
theorem un5 : P.underlying 5 = some (.int .u8) := by kernel_rfl
theorem ty5 : tyI P 5 = some (1, 1, some (.int .u8 0)) := by kernel_rfl
theorem sc5 : scal P 5 = true := by kernel_rfl
theorem un9 : P.underlying 9 = some (.string) := by kernel_rfl
theorem ty9 : tyI P 9 = some (1, 16, some (.string ⟨#[]⟩)) := by kernel_rfl
theorem sc9 : scal P 9 = true := by kernel_rfl
theorem len9 {s : ByteArray} {ty : TypeId} {cons : Array Bool} {K : Value → C} {pn : Pn} : nextS P (bltN .len #[9] ty cons #[.string s]) K pn = K (.int .i64 s.size) := nx_val fun _ => pv_lenS un9
theorem un22 : P.underlying 22 = some (.slice 59) := by kernel_rfl
theorem ty22 : tyI P 22 = some (1, 24, some (.slice none 0 0)) := by kernel_rfl
theorem sc22 : scal P 22 = true := by kernel_rfl
theorem len22 {a : Option Addr} {n c : Nat} {ty : TypeId} {cons : Array Bool} {K : Value → C} {pn : Pn} : nextS P (bltN .len #[22] ty cons #[.slice a n c]) K pn = K (.int .i64 n) := nx_val fun _ => pv_len un22
theorem ty24 : tyI P 24 = some (1, 24, some (.agg #[(.slice none 0 0)])) := by kernel_rfl
theorem ag24 : aggr P 24 = true := by kernel_rfl
theorem un25 : P.underlying 25 = some (.slice 56) := by kernel_rfl
theorem ty25 : tyI P 25 = some (1, 24, some (.slice none 0 0)) := by kernel_rfl
theorem sc25 : scal P 25 = true := by kernel_rfl
theorem len25 {a : Option Addr} {n c : Nat} {ty : TypeId} {cons : Array Bool} {K : Value → C} {pn : Pn} : nextS P (bltN .len #[25] ty cons #[.slice a n c]) K pn = K (.int .i64 n) := nx_val fun _ => pv_len un25
theorem un26 : P.underlying 26 = some (.slice 2) := by kernel_rfl
theorem ty26 : tyI P 26 = some (1, 24, some (.slice none 0 0)) := by kernel_rfl
theorem sc26 : scal P 26 = true := by kernel_rfl
theorem len26 {a : Option Addr} {n c : Nat} {ty : TypeId} {cons : Array Bool} {K : Value → C} {pn : Pn} : nextS P (bltN .len #[26] ty cons #[.slice a n c]) K pn = K (.int .i64 n) := nx_val fun _ => pv_len un26
theorem un27 : P.underlying 27 = some (.slice 40) := by kernel_rfl
theorem ty27 : tyI P 27 = some (1, 24, some (.slice none 0 0)) := by kernel_rfl
theorem sc27 : scal P 27 = true := by kernel_rfl
theorem len27 {a : Option Addr} {n c : Nat} {ty : TypeId} {cons : Array Bool} {K : Value → C} {pn : Pn} : nextS P (bltN .len #[27] ty cons #[.slice a n c]) K pn = K (.int .i64 n) := nx_val fun _ => pv_len un27
theorem un30 : P.underlying 30 = some (.pointer 66) := by kernel_rfl
theorem ty30 : tyI P 30 = some (1, 8, some (.pointer none)) := by kernel_rfl
theorem sc30 : scal P 30 = true := by kernel_rfl
theorem un32 : P.underlying 32 = some (.pointer 50) := by kernel_rfl
theorem ty32 : tyI P 32 = some (1, 8, some (.pointer none)) := by kernel_rfl
theorem sc32 : scal P 32 = true := by kernel_rfl
theorem un34 : P.underlying 34 = some (.slice 74) := by kernel_rfl
theorem ty34 : tyI P 34 = some (1, 24, some (.slice none 0 0)) := by kernel_rfl
theorem sc34 : scal P 34 = true := by kernel_rfl
theorem len34 {a : Option Addr} {n c : Nat} {ty : TypeId} {cons : Array Bool} {K : Value → C} {pn : Pn} : nextS P (bltN .len #[34] ty cons #[.slice a n c]) K pn = K (.int .i64 n) := nx_val fun _ => pv_len un34
theorem un36 : P.underlying 36 = some (.slice 69) := by kernel_rfl
theorem ty36 : tyI P 36 = some (1, 24, some (.slice none 0 0)) := by kernel_rfl
theorem sc36 : scal P 36 = true := by kernel_rfl
theorem len36 {a : Option Addr} {n c : Nat} {ty : TypeId} {cons : Array Bool} {K : Value → C} {pn : Pn} : nextS P (bltN .len #[36] ty cons #[.slice a n c]) K pn = K (.int .i64 n) := nx_val fun _ => pv_len un36
theorem ty40 : tyI P 40 = some (3, 56, some (.agg #[(.int .i64 0), (.slice none 0 0), (.slice none 0 0)])) := by kernel_rfl
theorem ag40 : aggr P 40 = true := by kernel_rfl
theorem un41 : P.underlying 41 = some (.slice 75) := by kernel_rfl
theorem ty41 : tyI P 41 = some (1, 24, some (.slice none 0 0)) := by kernel_rfl
theorem sc41 : scal P 41 = true := by kernel_rfl
theorem len41 {a : Option Addr} {n c : Nat} {ty : TypeId} {cons : Array Bool} {K : Value → C} {pn : Pn} : nextS P (bltN .len #[41] ty cons #[.slice a n c]) K pn = K (.int .i64 n) := nx_val fun _ => pv_len un41
theorem un45 : P.underlying 45 = some (.slice 52) := by kernel_rfl
theorem ty45 : tyI P 45 = some (1, 24, some (.slice none 0 0)) := by kernel_rfl
theorem sc45 : scal P 45 = true := by kernel_rfl
theorem len45 {a : Option Addr} {n c : Nat} {ty : TypeId} {cons : Array Bool} {K : Value → C} {pn : Pn} : nextS P (bltN .len #[45] ty cons #[.slice a n c]) K pn = K (.int .i64 n) := nx_val fun _ => pv_len un45
theorem un47 : P.underlying 47 = some (.slice 92) := by kernel_rfl
theorem ty47 : tyI P 47 = some (1, 24, some (.slice none 0 0)) := by kernel_rfl
theorem sc47 : scal P 47 = true := by kernel_rfl
theorem len47 {a : Option Addr} {n c : Nat} {ty : TypeId} {cons : Array Bool} {K : Value → C} {pn : Pn} : nextS P (bltN .len #[47] ty cons #[.slice a n c]) K pn = K (.int .i64 n) := nx_val fun _ => pv_len un47
theorem un48 : P.underlying 48 = some (.slice 53) := by kernel_rfl
theorem ty48 : tyI P 48 = some (1, 24, some (.slice none 0 0)) := by kernel_rfl
theorem sc48 : scal P 48 = true := by kernel_rfl
theorem len48 {a : Option Addr} {n c : Nat} {ty : TypeId} {cons : Array Bool} {K : Value → C} {pn : Pn} : nextS P (bltN .len #[48] ty cons #[.slice a n c]) K pn = K (.int .i64 n) := nx_val fun _ => pv_len un48
theorem ty50 : tyI P 50 = some (6, 128, some (.agg #[(.slice none 0 0), (.slice none 0 0), (.int .i64 0), (.slice none 0 0), (.slice none 0 0), (.slice none 0 0)])) := by kernel_rfl
theorem ag50 : aggr P 50 = true := by kernel_rfl
theorem ty52 : tyI P 52 = some (2, 16, some (.agg #[(.int .i64 0), (.int .i64 0)])) := by kernel_rfl
theorem ag52 : aggr P 52 = true := by kernel_rfl
theorem ty53 : tyI P 53 = some (2, 16, some (.agg #[(.int .i64 0), (.int .i64 0)])) := by kernel_rfl
theorem ag53 : aggr P 53 = true := by kernel_rfl
theorem un56 : P.underlying 56 = some (.slice 4) := by kernel_rfl
theorem ty56 : tyI P 56 = some (1, 24, some (.slice none 0 0)) := by kernel_rfl
theorem sc56 : scal P 56 = true := by kernel_rfl
theorem len56 {a : Option Addr} {n c : Nat} {ty : TypeId} {cons : Array Bool} {K : Value → C} {pn : Pn} : nextS P (bltN .len #[56] ty cons #[.slice a n c]) K pn = K (.int .i64 n) := nx_val fun _ => pv_len un56
theorem ty59 : tyI P 59 = some (5, 64, some (.agg #[(.string ⟨#[]⟩), (.int .i64 0), (.int .i64 0), (.int .i64 0), (.slice none 0 0)])) := by kernel_rfl
theorem ag59 : aggr P 59 = true := by kernel_rfl
theorem un60 : P.underlying 60 = some (.pointer 107) := by kernel_rfl
theorem ty60 : tyI P 60 = some (1, 8, some (.pointer none)) := by kernel_rfl
theorem sc60 : scal P 60 = true := by kernel_rfl
theorem un62 : P.underlying 62 = some (.chan .both 2) := by kernel_rfl
theorem ty62 : tyI P 62 = some (1, 8, some (.chan none)) := by kernel_rfl
theorem sc62 : scal P 62 = true := by kernel_rfl
theorem un63 : P.underlying 63 = some (.map 3 86) := by kernel_rfl
theorem ty63 : tyI P 63 = some (1, 8, some (.map none)) := by kernel_rfl
theorem sc63 : scal P 63 = true := by kernel_rfl
theorem un64 : P.underlying 64 = some (.pointer 110) := by kernel_rfl
theorem ty64 : tyI P 64 = some (1, 8, some (.pointer none)) := by kernel_rfl
theorem sc64 : scal P 64 = true := by kernel_rfl
theorem ty66 : tyI P 66 = some (7, 104, some (.agg #[(.pointer none), (.slice none 0 0), (.slice none 0 0), (.chan none), (.pointer none), (.map none), (.slice none 0 0)])) := by kernel_rfl
theorem ag66 : aggr P 66 = true := by kernel_rfl
theorem ty69 : tyI P 69 = some (3, 24, some (.agg #[(.int .i64 0), (.int .i64 0), (.int .i64 0)])) := by kernel_rfl
theorem ag69 : aggr P 69 = true := by kernel_rfl
theorem un71 : P.underlying 71 = some (.slice 3) := by kernel_rfl
theorem ty71 : tyI P 71 = some (1, 24, some (.slice none 0 0)) := by kernel_rfl
theorem sc71 : scal P 71 = true := by kernel_rfl
theorem len71 {a : Option Addr} {n c : Nat} {ty : TypeId} {cons : Array Bool} {K : Value → C} {pn : Pn} : nextS P (bltN .len #[71] ty cons #[.slice a n c]) K pn = K (.int .i64 n) := nx_val fun _ => pv_len un71
theorem ty74 : tyI P 74 = some (5, 64, some (.agg #[(.string ⟨#[]⟩), (.int .i64 0), (.int .i64 0), (.int .i64 0), (.slice none 0 0)])) := by kernel_rfl
theorem ag74 : aggr P 74 = true := by kernel_rfl
theorem ty75 : tyI P 75 = some (3, 24, some (.agg #[(.int .i64 0), (.int .i64 0), (.int .i64 0)])) := by kernel_rfl
theorem ag75 : aggr P 75 = true := by kernel_rfl
theorem ty83 : tyI P 83 = some (1, 8, some (.nilFunc)) := by kernel_rfl
theorem sc83 : scal P 83 = true := by kernel_rfl
theorem ty86 : tyI P 86 = some (2, 16, some (.agg #[(.int .i64 0), (.int .i64 0)])) := by kernel_rfl
theorem ag86 : aggr P 86 = true := by kernel_rfl
theorem ty92 : tyI P 92 = some (5, 56, some (.agg #[(.int .i64 0), (.slice none 0 0), (.bool false), (.int .i64 0), (.int .i64 0)])) := by kernel_rfl
theorem ag92 : aggr P 92 = true := by kernel_rfl
theorem un95 : P.underlying 95 = some (.pointer 98) := by kernel_rfl
theorem ty95 : tyI P 95 = some (1, 8, some (.pointer none)) := by kernel_rfl
theorem sc95 : scal P 95 = true := by kernel_rfl
theorem un96 : P.underlying 96 = some (.slice 5) := by kernel_rfl
theorem ty96 : tyI P 96 = some (1, 24, some (.slice none 0 0)) := by kernel_rfl
theorem sc96 : scal P 96 = true := by kernel_rfl
theorem len96 {a : Option Addr} {n c : Nat} {ty : TypeId} {cons : Array Bool} {K : Value → C} {pn : Pn} : nextS P (bltN .len #[96] ty cons #[.slice a n c]) K pn = K (.int .i64 n) := nx_val fun _ => pv_len un96
theorem ty98 : tyI P 98 = some (2, 32, some (.agg #[(.pointer none), (.slice none 0 0)])) := by kernel_rfl
theorem ag98 : aggr P 98 = true := by kernel_rfl
theorem un105 : P.underlying 105 = some (.map 3 36) := by kernel_rfl
theorem ty105 : tyI P 105 = some (1, 8, some (.map none)) := by kernel_rfl
theorem sc105 : scal P 105 = true := by kernel_rfl
theorem ty107 : tyI P 107 = some (3, 40, some (.agg #[(.int .i64 0), (.slice none 0 0), (.map none)])) := by kernel_rfl
theorem ag107 : aggr P 107 = true := by kernel_rfl
theorem un108 : P.underlying 108 = some (.slice 115) := by kernel_rfl
theorem ty108 : tyI P 108 = some (1, 24, some (.slice none 0 0)) := by kernel_rfl
theorem sc108 : scal P 108 = true := by kernel_rfl
theorem len108 {a : Option Addr} {n c : Nat} {ty : TypeId} {cons : Array Bool} {K : Value → C} {pn : Pn} : nextS P (bltN .len #[108] ty cons #[.slice a n c]) K pn = K (.int .i64 n) := nx_val fun _ => pv_len un108
theorem ty110 : tyI P 110 = some (1, 24, some (.agg #[(.slice none 0 0)])) := by kernel_rfl
theorem ag110 : aggr P 110 = true := by kernel_rfl
theorem ty112 : tyI P 112 = some (2, 16, some (.agg #[(.int .i64 0), (.int .i64 0)])) := by kernel_rfl
theorem ag112 : aggr P 112 = true := by kernel_rfl
theorem un113 : P.underlying 113 = some (.array 8 112) := by kernel_rfl
theorem ty113 : tyI P 113 = some (16, 128, some (.agg #[(.int .i64 0), (.int .i64 0), (.int .i64 0), (.int .i64 0), (.int .i64 0), (.int .i64 0), (.int .i64 0), (.int .i64 0), (.int .i64 0), (.int .i64 0), (.int .i64 0), (.int .i64 0), (.int .i64 0), (.int .i64 0), (.int .i64 0), (.int .i64 0)])) := by kernel_rfl
theorem ag113 : aggr P 113 = true := by kernel_rfl
theorem ty115 : tyI P 115 = some (18, 144, some (.agg #[(.int .i64 0), (.int .i64 0), (.int .i64 0), (.int .i64 0), (.int .i64 0), (.int .i64 0), (.int .i64 0), (.int .i64 0), (.int .i64 0), (.int .i64 0), (.int .i64 0), (.int .i64 0), (.int .i64 0), (.int .i64 0), (.int .i64 0), (.int .i64 0), (.int .i64 0), (.int .i64 0)])) := by kernel_rfl
theorem ag115 : aggr P 115 = true := by kernel_rfl
theorem un117 : P.underlying 117 = some (.pointer 115) := by kernel_rfl
theorem ty117 : tyI P 117 = some (1, 8, some (.pointer none)) := by kernel_rfl
theorem sc117 : scal P 117 = true := by kernel_rfl
theorem un126 : P.underlying 126 = some (.slice 9) := by kernel_rfl
theorem ty126 : tyI P 126 = some (1, 24, some (.slice none 0 0)) := by kernel_rfl
theorem sc126 : scal P 126 = true := by kernel_rfl
theorem len126 {a : Option Addr} {n c : Nat} {ty : TypeId} {cons : Array Bool} {K : Value → C} {pn : Pn} : nextS P (bltN .len #[126] ty cons #[.slice a n c]) K pn = K (.int .i64 n) := nx_val fun _ => pv_len un126
theorem ty128 : tyI P 128 = some (5, 48, some (.agg #[(.string ⟨#[]⟩), (.int .i64 0), (.int .i64 0), (.int .i64 0), (.int .i64 0)])) := by kernel_rfl
theorem ag128 : aggr P 128 = true := by kernel_rfl
theorem un132 : P.underlying 132 = some (.pointer 5) := by kernel_rfl
theorem ty132 : tyI P 132 = some (1, 8, some (.pointer none)) := by kernel_rfl
theorem sc132 : scal P 132 = true := by kernel_rfl
theorem ty143 : tyI P 143 = some (1, 8, some (.pointer none)) := by kernel_rfl
theorem sc143 : scal P 143 = true := by kernel_rfl
theorem un145 : P.underlying 145 = some (.array 26 128) := by kernel_rfl
theorem ty145 : tyI P 145 = some (130, 1248, some (.agg #[(.string ⟨#[]⟩), (.int .i64 0), (.int .i64 0), (.int .i64 0), (.int .i64 0), (.string ⟨#[]⟩), (.int .i64 0), (.int .i64 0), (.int .i64 0), (.int .i64 0), (.string ⟨#[]⟩), (.int .i64 0), (.int .i64 0), (.int .i64 0), (.int .i64 0), (.string ⟨#[]⟩), (.int .i64 0), (.int .i64 0), (.int .i64 0), (.int .i64 0), (.string ⟨#[]⟩), (.int .i64 0), (.int .i64 0), (.int .i64 0), (.int .i64 0), (.string ⟨#[]⟩), (.int .i64 0), (.int .i64 0), (.int .i64 0), (.int .i64 0), (.string ⟨#[]⟩), (.int .i64 0), (.int .i64 0), (.int .i64 0), (.int .i64 0), (.string ⟨#[]⟩), (.int .i64 0), (.int .i64 0), (.int .i64 0), (.int .i64 0), (.string ⟨#[]⟩), (.int .i64 0), (.int .i64 0), (.int .i64 0), (.int .i64 0), (.string ⟨#[]⟩), (.int .i64 0), (.int .i64 0), (.int .i64 0), (.int .i64 0), (.string ⟨#[]⟩), (.int .i64 0), (.int .i64 0), (.int .i64 0), (.int .i64 0), (.string ⟨#[]⟩), (.int .i64 0), (.int .i64 0), (.int .i64 0), (.int .i64 0), (.string ⟨#[]⟩), (.int .i64 0), (.int .i64 0), (.int .i64 0), (.int .i64 0), (.string ⟨#[]⟩), (.int .i64 0), (.int .i64 0), (.int .i64 0), (.int .i64 0), (.string ⟨#[]⟩), (.int .i64 0), (.int .i64 0), (.int .i64 0), (.int .i64 0), (.string ⟨#[]⟩), (.int .i64 0), (.int .i64 0), (.int .i64 0), (.int .i64 0), (.string ⟨#[]⟩), (.int .i64 0), (.int .i64 0), (.int .i64 0), (.int .i64 0), (.string ⟨#[]⟩), (.int .i64 0), (.int .i64 0), (.int .i64 0), (.int .i64 0), (.string ⟨#[]⟩), (.int .i64 0), (.int .i64 0), (.int .i64 0), (.int .i64 0), (.string ⟨#[]⟩), (.int .i64 0), (.int .i64 0), (.int .i64 0), (.int .i64 0), (.string ⟨#[]⟩), (.int .i64 0), (.int .i64 0), (.int .i64 0), (.int .i64 0), (.string ⟨#[]⟩), (.int .i64 0), (.int .i64 0), (.int .i64 0), (.int .i64 0), (.string ⟨#[]⟩), (.int .i64 0), (.int .i64 0), (.int .i64 0), (.int .i64 0), (.string ⟨#[]⟩), (.int .i64 0), (.int .i64 0), (.int .i64 0), (.int .i64 0), (.string ⟨#[]⟩), (.int .i64 0), (.int .i64 0), (.int .i64 0), (.int .i64 0), (.string ⟨#[]⟩), (.int .i64 0), (.int .i64 0), (.int .i64 0), (.int .i64 0)])) := by kernel_rfl
theorem ag145 : aggr P 145 = true := by kernel_rfl
theorem un151 : P.underlying 151 = some (.array 24 5) := by kernel_rfl
theorem ty151 : tyI P 151 = some (24, 24, some (.agg #[(.int .u8 0), (.int .u8 0), (.int .u8 0), (.int .u8 0), (.int .u8 0), (.int .u8 0), (.int .u8 0), (.int .u8 0), (.int .u8 0), (.int .u8 0), (.int .u8 0), (.int .u8 0), (.int .u8 0), (.int .u8 0), (.int .u8 0), (.int .u8 0), (.int .u8 0), (.int .u8 0), (.int .u8 0), (.int .u8 0), (.int .u8 0), (.int .u8 0), (.int .u8 0), (.int .u8 0)])) := by kernel_rfl
theorem ag151 : aggr P 151 = true := by kernel_rfl
theorem un152 : P.underlying 152 = some (.int .u64) := by kernel_rfl
theorem ty152 : tyI P 152 = some (1, 8, some (.int .u64 0)) := by kernel_rfl
theorem sc152 : scal P 152 = true := by kernel_rfl
theorem ty159 : tyI P 159 = some (1, 8, some (.nilFunc)) := by kernel_rfl
theorem sc159 : scal P 159 = true := by kernel_rfl
theorem un160 : P.underlying 160 = some (.pointer 162) := by kernel_rfl
theorem ty160 : tyI P 160 = some (1, 8, some (.pointer none)) := by kernel_rfl
theorem sc160 : scal P 160 = true := by kernel_rfl
theorem ty162 : tyI P 162 = some (1, 24, some (.agg #[(.slice none 0 0)])) := by kernel_rfl
theorem ag162 : aggr P 162 = true := by kernel_rfl
theorem un171 : P.underlying 171 = some (.array 20 152) := by kernel_rfl
theorem ty171 : tyI P 171 = some (20, 160, some (.agg #[(.int .u64 0), (.int .u64 0), (.int .u64 0), (.int .u64 0), (.int .u64 0), (.int .u64 0), (.int .u64 0), (.int .u64 0), (.int .u64 0), (.int .u64 0), (.int .u64 0), (.int .u64 0), (.int .u64 0), (.int .u64 0), (.int .u64 0), (.int .u64 0), (.int .u64 0), (.int .u64 0), (.int .u64 0), (.int .u64 0)])) := by kernel_rfl
theorem ag171 : aggr P 171 = true := by kernel_rfl
theorem un172 : P.underlying 172 = some (.int .u32) := by kernel_rfl
theorem ty172 : tyI P 172 = some (1, 4, some (.int .u32 0)) := by kernel_rfl
theorem sc172 : scal P 172 = true := by kernel_rfl
theorem un173 : P.underlying 173 = some (.array 65 5) := by kernel_rfl
theorem ty173 : tyI P 173 = some (65, 65, some (.agg #[(.int .u8 0), (.int .u8 0), (.int .u8 0), (.int .u8 0), (.int .u8 0), (.int .u8 0), (.int .u8 0), (.int .u8 0), (.int .u8 0), (.int .u8 0), (.int .u8 0), (.int .u8 0), (.int .u8 0), (.int .u8 0), (.int .u8 0), (.int .u8 0), (.int .u8 0), (.int .u8 0), (.int .u8 0), (.int .u8 0), (.int .u8 0), (.int .u8 0), (.int .u8 0), (.int .u8 0), (.int .u8 0), (.int .u8 0), (.int .u8 0), (.int .u8 0), (.int .u8 0), (.int .u8 0), (.int .u8 0), (.int .u8 0), (.int .u8 0), (.int .u8 0), (.int .u8 0), (.int .u8 0), (.int .u8 0), (.int .u8 0), (.int .u8 0), (.int .u8 0), (.int .u8 0), (.int .u8 0), (.int .u8 0), (.int .u8 0), (.int .u8 0), (.int .u8 0), (.int .u8 0), (.int .u8 0), (.int .u8 0), (.int .u8 0), (.int .u8 0), (.int .u8 0), (.int .u8 0), (.int .u8 0), (.int .u8 0), (.int .u8 0), (.int .u8 0), (.int .u8 0), (.int .u8 0), (.int .u8 0), (.int .u8 0), (.int .u8 0), (.int .u8 0), (.int .u8 0), (.int .u8 0)])) := by kernel_rfl
theorem ag173 : aggr P 173 = true := by kernel_rfl
theorem un174 : P.underlying 174 = some (.int .u64) := by kernel_rfl
theorem ty174 : tyI P 174 = some (1, 8, some (.int .u64 0)) := by kernel_rfl
theorem sc174 : scal P 174 = true := by kernel_rfl
theorem un181 : P.underlying 181 = some (.pointer 69) := by kernel_rfl
theorem ty181 : tyI P 181 = some (1, 8, some (.pointer none)) := by kernel_rfl
theorem sc181 : scal P 181 = true := by kernel_rfl
theorem un183 : P.underlying 183 = some (.array 32 5) := by kernel_rfl
theorem ty183 : tyI P 183 = some (32, 32, some (.agg #[(.int .u8 0), (.int .u8 0), (.int .u8 0), (.int .u8 0), (.int .u8 0), (.int .u8 0), (.int .u8 0), (.int .u8 0), (.int .u8 0), (.int .u8 0), (.int .u8 0), (.int .u8 0), (.int .u8 0), (.int .u8 0), (.int .u8 0), (.int .u8 0), (.int .u8 0), (.int .u8 0), (.int .u8 0), (.int .u8 0), (.int .u8 0), (.int .u8 0), (.int .u8 0), (.int .u8 0), (.int .u8 0), (.int .u8 0), (.int .u8 0), (.int .u8 0), (.int .u8 0), (.int .u8 0), (.int .u8 0), (.int .u8 0)])) := by kernel_rfl
theorem ag183 : aggr P 183 = true := by kernel_rfl
theorem un184 : P.underlying 184 = some (.array 64 5) := by kernel_rfl
theorem ty184 : tyI P 184 = some (64, 64, some (.agg #[(.int .u8 0), (.int .u8 0), (.int .u8 0), (.int .u8 0), (.int .u8 0), (.int .u8 0), (.int .u8 0), (.int .u8 0), (.int .u8 0), (.int .u8 0), (.int .u8 0), (.int .u8 0), (.int .u8 0), (.int .u8 0), (.int .u8 0), (.int .u8 0), (.int .u8 0), (.int .u8 0), (.int .u8 0), (.int .u8 0), (.int .u8 0), (.int .u8 0), (.int .u8 0), (.int .u8 0), (.int .u8 0), (.int .u8 0), (.int .u8 0), (.int .u8 0), (.int .u8 0), (.int .u8 0), (.int .u8 0), (.int .u8 0), (.int .u8 0), (.int .u8 0), (.int .u8 0), (.int .u8 0), (.int .u8 0), (.int .u8 0), (.int .u8 0), (.int .u8 0), (.int .u8 0), (.int .u8 0), (.int .u8 0), (.int .u8 0), (.int .u8 0), (.int .u8 0), (.int .u8 0), (.int .u8 0), (.int .u8 0), (.int .u8 0), (.int .u8 0), (.int .u8 0), (.int .u8 0), (.int .u8 0), (.int .u8 0), (.int .u8 0), (.int .u8 0), (.int .u8 0), (.int .u8 0), (.int .u8 0), (.int .u8 0), (.int .u8 0), (.int .u8 0), (.int .u8 0)])) := by kernel_rfl
theorem ag184 : aggr P 184 = true := by kernel_rfl
theorem fp24_0 {b o : Nat} (w : World) : (V (Instr.fieldAt 24 (.pointer (some ⟨b, o, none⟩)) 0)).run P w = .ok (.value (.pointer (some ⟨b, o, none⟩))) w := by kernel_rfl
theorem fa24_0 {b o : Nat} {K : Value → C} {pn : Pn} : nextS P (V (Instr.fieldAt 24 (.pointer (some ⟨b, o, none⟩)) 0)) K pn = K (.pointer (some ⟨b, o, none⟩)) := nx_val fun w => fp24_0 w
theorem fp40_0 {b o : Nat} (w : World) : (V (Instr.fieldAt 40 (.pointer (some ⟨b, o, none⟩)) 0)).run P w = .ok (.value (.pointer (some ⟨b, o, none⟩))) w := by kernel_rfl
theorem fa40_0 {b o : Nat} {K : Value → C} {pn : Pn} : nextS P (V (Instr.fieldAt 40 (.pointer (some ⟨b, o, none⟩)) 0)) K pn = K (.pointer (some ⟨b, o, none⟩)) := nx_val fun w => fp40_0 w
theorem fp40_1 {b o : Nat} (w : World) : (V (Instr.fieldAt 40 (.pointer (some ⟨b, o, none⟩)) 1)).run P w = .ok (.value (.pointer (some ⟨b, o + 1, none⟩))) w := by kernel_rfl
theorem fa40_1 {b o : Nat} {K : Value → C} {pn : Pn} : nextS P (V (Instr.fieldAt 40 (.pointer (some ⟨b, o, none⟩)) 1)) K pn = K (.pointer (some ⟨b, o + 1, none⟩)) := nx_val fun w => fp40_1 w
theorem fp50_0 {b o : Nat} (w : World) : (V (Instr.fieldAt 50 (.pointer (some ⟨b, o, none⟩)) 0)).run P w = .ok (.value (.pointer (some ⟨b, o, none⟩))) w := by kernel_rfl
theorem fa50_0 {b o : Nat} {K : Value → C} {pn : Pn} : nextS P (V (Instr.fieldAt 50 (.pointer (some ⟨b, o, none⟩)) 0)) K pn = K (.pointer (some ⟨b, o, none⟩)) := nx_val fun w => fp50_0 w
theorem fp50_1 {b o : Nat} (w : World) : (V (Instr.fieldAt 50 (.pointer (some ⟨b, o, none⟩)) 1)).run P w = .ok (.value (.pointer (some ⟨b, o + 1, none⟩))) w := by kernel_rfl
theorem fa50_1 {b o : Nat} {K : Value → C} {pn : Pn} : nextS P (V (Instr.fieldAt 50 (.pointer (some ⟨b, o, none⟩)) 1)) K pn = K (.pointer (some ⟨b, o + 1, none⟩)) := nx_val fun w => fp50_1 w
theorem fp50_2 {b o : Nat} (w : World) : (V (Instr.fieldAt 50 (.pointer (some ⟨b, o, none⟩)) 2)).run P w = .ok (.value (.pointer (some ⟨b, o + 2, none⟩))) w := by kernel_rfl
theorem fa50_2 {b o : Nat} {K : Value → C} {pn : Pn} : nextS P (V (Instr.fieldAt 50 (.pointer (some ⟨b, o, none⟩)) 2)) K pn = K (.pointer (some ⟨b, o + 2, none⟩)) := nx_val fun w => fp50_2 w
theorem fp50_3 {b o : Nat} (w : World) : (V (Instr.fieldAt 50 (.pointer (some ⟨b, o, none⟩)) 3)).run P w = .ok (.value (.pointer (some ⟨b, o + 3, none⟩))) w := by kernel_rfl
theorem fa50_3 {b o : Nat} {K : Value → C} {pn : Pn} : nextS P (V (Instr.fieldAt 50 (.pointer (some ⟨b, o, none⟩)) 3)) K pn = K (.pointer (some ⟨b, o + 3, none⟩)) := nx_val fun w => fp50_3 w
theorem fp50_4 {b o : Nat} (w : World) : (V (Instr.fieldAt 50 (.pointer (some ⟨b, o, none⟩)) 4)).run P w = .ok (.value (.pointer (some ⟨b, o + 4, none⟩))) w := by kernel_rfl
theorem fa50_4 {b o : Nat} {K : Value → C} {pn : Pn} : nextS P (V (Instr.fieldAt 50 (.pointer (some ⟨b, o, none⟩)) 4)) K pn = K (.pointer (some ⟨b, o + 4, none⟩)) := nx_val fun w => fp50_4 w
theorem fp50_5 {b o : Nat} (w : World) : (V (Instr.fieldAt 50 (.pointer (some ⟨b, o, none⟩)) 5)).run P w = .ok (.value (.pointer (some ⟨b, o + 5, none⟩))) w := by kernel_rfl
theorem fa50_5 {b o : Nat} {K : Value → C} {pn : Pn} : nextS P (V (Instr.fieldAt 50 (.pointer (some ⟨b, o, none⟩)) 5)) K pn = K (.pointer (some ⟨b, o + 5, none⟩)) := nx_val fun w => fp50_5 w
theorem fp52_0 {b o : Nat} (w : World) : (V (Instr.fieldAt 52 (.pointer (some ⟨b, o, none⟩)) 0)).run P w = .ok (.value (.pointer (some ⟨b, o, none⟩))) w := by kernel_rfl
theorem fa52_0 {b o : Nat} {K : Value → C} {pn : Pn} : nextS P (V (Instr.fieldAt 52 (.pointer (some ⟨b, o, none⟩)) 0)) K pn = K (.pointer (some ⟨b, o, none⟩)) := nx_val fun w => fp52_0 w
theorem fp52_1 {b o : Nat} (w : World) : (V (Instr.fieldAt 52 (.pointer (some ⟨b, o, none⟩)) 1)).run P w = .ok (.value (.pointer (some ⟨b, o + 1, none⟩))) w := by kernel_rfl
theorem fa52_1 {b o : Nat} {K : Value → C} {pn : Pn} : nextS P (V (Instr.fieldAt 52 (.pointer (some ⟨b, o, none⟩)) 1)) K pn = K (.pointer (some ⟨b, o + 1, none⟩)) := nx_val fun w => fp52_1 w
theorem fp53_0 {b o : Nat} (w : World) : (V (Instr.fieldAt 53 (.pointer (some ⟨b, o, none⟩)) 0)).run P w = .ok (.value (.pointer (some ⟨b, o, none⟩))) w := by kernel_rfl
theorem fa53_0 {b o : Nat} {K : Value → C} {pn : Pn} : nextS P (V (Instr.fieldAt 53 (.pointer (some ⟨b, o, none⟩)) 0)) K pn = K (.pointer (some ⟨b, o, none⟩)) := nx_val fun w => fp53_0 w
theorem fp53_1 {b o : Nat} (w : World) : (V (Instr.fieldAt 53 (.pointer (some ⟨b, o, none⟩)) 1)).run P w = .ok (.value (.pointer (some ⟨b, o + 1, none⟩))) w := by kernel_rfl
theorem fa53_1 {b o : Nat} {K : Value → C} {pn : Pn} : nextS P (V (Instr.fieldAt 53 (.pointer (some ⟨b, o, none⟩)) 1)) K pn = K (.pointer (some ⟨b, o + 1, none⟩)) := nx_val fun w => fp53_1 w
theorem fp59_0 {b o : Nat} (w : World) : (V (Instr.fieldAt 59 (.pointer (some ⟨b, o, none⟩)) 0)).run P w = .ok (.value (.pointer (some ⟨b, o, none⟩))) w := by kernel_rfl
theorem fa59_0 {b o : Nat} {K : Value → C} {pn : Pn} : nextS P (V (Instr.fieldAt 59 (.pointer (some ⟨b, o, none⟩)) 0)) K pn = K (.pointer (some ⟨b, o, none⟩)) := nx_val fun w => fp59_0 w
theorem fp59_1 {b o : Nat} (w : World) : (V (Instr.fieldAt 59 (.pointer (some ⟨b, o, none⟩)) 1)).run P w = .ok (.value (.pointer (some ⟨b, o + 1, none⟩))) w := by kernel_rfl
theorem fa59_1 {b o : Nat} {K : Value → C} {pn : Pn} : nextS P (V (Instr.fieldAt 59 (.pointer (some ⟨b, o, none⟩)) 1)) K pn = K (.pointer (some ⟨b, o + 1, none⟩)) := nx_val fun w => fp59_1 w
theorem fp59_2 {b o : Nat} (w : World) : (V (Instr.fieldAt 59 (.pointer (some ⟨b, o, none⟩)) 2)).run P w = .ok (.value (.pointer (some ⟨b, o + 2, none⟩))) w := by kernel_rfl
theorem fa59_2 {b o : Nat} {K : Value → C} {pn : Pn} : nextS P (V (Instr.fieldAt 59 (.pointer (some ⟨b, o, none⟩)) 2)) K pn = K (.pointer (some ⟨b, o + 2, none⟩)) := nx_val fun w => fp59_2 w
theorem fp59_3 {b o : Nat} (w : World) : (V (Instr.fieldAt 59 (.pointer (some ⟨b, o, none⟩)) 3)).run P w = .ok (.value (.pointer (some ⟨b, o + 3, none⟩))) w := by kernel_rfl
theorem fa59_3 {b o : Nat} {K : Value → C} {pn : Pn} : nextS P (V (Instr.fieldAt 59 (.pointer (some ⟨b, o, none⟩)) 3)) K pn = K (.pointer (some ⟨b, o + 3, none⟩)) := nx_val fun w => fp59_3 w
theorem fp59_4 {b o : Nat} (w : World) : (V (Instr.fieldAt 59 (.pointer (some ⟨b, o, none⟩)) 4)).run P w = .ok (.value (.pointer (some ⟨b, o + 4, none⟩))) w := by kernel_rfl
theorem fa59_4 {b o : Nat} {K : Value → C} {pn : Pn} : nextS P (V (Instr.fieldAt 59 (.pointer (some ⟨b, o, none⟩)) 4)) K pn = K (.pointer (some ⟨b, o + 4, none⟩)) := nx_val fun w => fp59_4 w
theorem fp66_0 {b o : Nat} (w : World) : (V (Instr.fieldAt 66 (.pointer (some ⟨b, o, none⟩)) 0)).run P w = .ok (.value (.pointer (some ⟨b, o, none⟩))) w := by kernel_rfl
theorem fa66_0 {b o : Nat} {K : Value → C} {pn : Pn} : nextS P (V (Instr.fieldAt 66 (.pointer (some ⟨b, o, none⟩)) 0)) K pn = K (.pointer (some ⟨b, o, none⟩)) := nx_val fun w => fp66_0 w
theorem fp66_1 {b o : Nat} (w : World) : (V (Instr.fieldAt 66 (.pointer (some ⟨b, o, none⟩)) 1)).run P w = .ok (.value (.pointer (some ⟨b, o + 1, none⟩))) w := by kernel_rfl
theorem fa66_1 {b o : Nat} {K : Value → C} {pn : Pn} : nextS P (V (Instr.fieldAt 66 (.pointer (some ⟨b, o, none⟩)) 1)) K pn = K (.pointer (some ⟨b, o + 1, none⟩)) := nx_val fun w => fp66_1 w
theorem fp66_2 {b o : Nat} (w : World) : (V (Instr.fieldAt 66 (.pointer (some ⟨b, o, none⟩)) 2)).run P w = .ok (.value (.pointer (some ⟨b, o + 2, none⟩))) w := by kernel_rfl
theorem fa66_2 {b o : Nat} {K : Value → C} {pn : Pn} : nextS P (V (Instr.fieldAt 66 (.pointer (some ⟨b, o, none⟩)) 2)) K pn = K (.pointer (some ⟨b, o + 2, none⟩)) := nx_val fun w => fp66_2 w
theorem fp66_3 {b o : Nat} (w : World) : (V (Instr.fieldAt 66 (.pointer (some ⟨b, o, none⟩)) 3)).run P w = .ok (.value (.pointer (some ⟨b, o + 3, none⟩))) w := by kernel_rfl
theorem fa66_3 {b o : Nat} {K : Value → C} {pn : Pn} : nextS P (V (Instr.fieldAt 66 (.pointer (some ⟨b, o, none⟩)) 3)) K pn = K (.pointer (some ⟨b, o + 3, none⟩)) := nx_val fun w => fp66_3 w
theorem fp66_4 {b o : Nat} (w : World) : (V (Instr.fieldAt 66 (.pointer (some ⟨b, o, none⟩)) 4)).run P w = .ok (.value (.pointer (some ⟨b, o + 4, none⟩))) w := by kernel_rfl
theorem fa66_4 {b o : Nat} {K : Value → C} {pn : Pn} : nextS P (V (Instr.fieldAt 66 (.pointer (some ⟨b, o, none⟩)) 4)) K pn = K (.pointer (some ⟨b, o + 4, none⟩)) := nx_val fun w => fp66_4 w
theorem fp66_5 {b o : Nat} (w : World) : (V (Instr.fieldAt 66 (.pointer (some ⟨b, o, none⟩)) 5)).run P w = .ok (.value (.pointer (some ⟨b, o + 5, none⟩))) w := by kernel_rfl
theorem fa66_5 {b o : Nat} {K : Value → C} {pn : Pn} : nextS P (V (Instr.fieldAt 66 (.pointer (some ⟨b, o, none⟩)) 5)) K pn = K (.pointer (some ⟨b, o + 5, none⟩)) := nx_val fun w => fp66_5 w
theorem fp66_6 {b o : Nat} (w : World) : (V (Instr.fieldAt 66 (.pointer (some ⟨b, o, none⟩)) 6)).run P w = .ok (.value (.pointer (some ⟨b, o + 6, none⟩))) w := by kernel_rfl
theorem fa66_6 {b o : Nat} {K : Value → C} {pn : Pn} : nextS P (V (Instr.fieldAt 66 (.pointer (some ⟨b, o, none⟩)) 6)) K pn = K (.pointer (some ⟨b, o + 6, none⟩)) := nx_val fun w => fp66_6 w
theorem fp69_0 {b o : Nat} (w : World) : (V (Instr.fieldAt 69 (.pointer (some ⟨b, o, none⟩)) 0)).run P w = .ok (.value (.pointer (some ⟨b, o, none⟩))) w := by kernel_rfl
theorem fa69_0 {b o : Nat} {K : Value → C} {pn : Pn} : nextS P (V (Instr.fieldAt 69 (.pointer (some ⟨b, o, none⟩)) 0)) K pn = K (.pointer (some ⟨b, o, none⟩)) := nx_val fun w => fp69_0 w
theorem fp69_1 {b o : Nat} (w : World) : (V (Instr.fieldAt 69 (.pointer (some ⟨b, o, none⟩)) 1)).run P w = .ok (.value (.pointer (some ⟨b, o + 1, none⟩))) w := by kernel_rfl
theorem fa69_1 {b o : Nat} {K : Value → C} {pn : Pn} : nextS P (V (Instr.fieldAt 69 (.pointer (some ⟨b, o, none⟩)) 1)) K pn = K (.pointer (some ⟨b, o + 1, none⟩)) := nx_val fun w => fp69_1 w
theorem fp69_2 {b o : Nat} (w : World) : (V (Instr.fieldAt 69 (.pointer (some ⟨b, o, none⟩)) 2)).run P w = .ok (.value (.pointer (some ⟨b, o + 2, none⟩))) w := by kernel_rfl
theorem fa69_2 {b o : Nat} {K : Value → C} {pn : Pn} : nextS P (V (Instr.fieldAt 69 (.pointer (some ⟨b, o, none⟩)) 2)) K pn = K (.pointer (some ⟨b, o + 2, none⟩)) := nx_val fun w => fp69_2 w
theorem fp74_1 {b o : Nat} (w : World) : (V (Instr.fieldAt 74 (.pointer (some ⟨b, o, none⟩)) 1)).run P w = .ok (.value (.pointer (some ⟨b, o + 1, none⟩))) w := by kernel_rfl
theorem fa74_1 {b o : Nat} {K : Value → C} {pn : Pn} : nextS P (V (Instr.fieldAt 74 (.pointer (some ⟨b, o, none⟩)) 1)) K pn = K (.pointer (some ⟨b, o + 1, none⟩)) := nx_val fun w => fp74_1 w
theorem fp74_4 {b o : Nat} (w : World) : (V (Instr.fieldAt 74 (.pointer (some ⟨b, o, none⟩)) 4)).run P w = .ok (.value (.pointer (some ⟨b, o + 4, none⟩))) w := by kernel_rfl
theorem fa74_4 {b o : Nat} {K : Value → C} {pn : Pn} : nextS P (V (Instr.fieldAt 74 (.pointer (some ⟨b, o, none⟩)) 4)) K pn = K (.pointer (some ⟨b, o + 4, none⟩)) := nx_val fun w => fp74_4 w
theorem fp75_0 {b o : Nat} (w : World) : (V (Instr.fieldAt 75 (.pointer (some ⟨b, o, none⟩)) 0)).run P w = .ok (.value (.pointer (some ⟨b, o, none⟩))) w := by kernel_rfl
theorem fa75_0 {b o : Nat} {K : Value → C} {pn : Pn} : nextS P (V (Instr.fieldAt 75 (.pointer (some ⟨b, o, none⟩)) 0)) K pn = K (.pointer (some ⟨b, o, none⟩)) := nx_val fun w => fp75_0 w
theorem fp75_1 {b o : Nat} (w : World) : (V (Instr.fieldAt 75 (.pointer (some ⟨b, o, none⟩)) 1)).run P w = .ok (.value (.pointer (some ⟨b, o + 1, none⟩))) w := by kernel_rfl
theorem fa75_1 {b o : Nat} {K : Value → C} {pn : Pn} : nextS P (V (Instr.fieldAt 75 (.pointer (some ⟨b, o, none⟩)) 1)) K pn = K (.pointer (some ⟨b, o + 1, none⟩)) := nx_val fun w => fp75_1 w
theorem fp75_2 {b o : Nat} (w : World) : (V (Instr.fieldAt 75 (.pointer (some ⟨b, o, none⟩)) 2)).run P w = .ok (.value (.pointer (some ⟨b, o + 2, none⟩))) w := by kernel_rfl
theorem fa75_2 {b o : Nat} {K : Value → C} {pn : Pn} : nextS P (V (Instr.fieldAt 75 (.pointer (some ⟨b, o, none⟩)) 2)) K pn = K (.pointer (some ⟨b, o + 2, none⟩)) := nx_val fun w => fp75_2 w
theorem fp86_0 {b o : Nat} (w : World) : (V (Instr.fieldAt 86 (.pointer (some ⟨b, o, none⟩)) 0)).run P w = .ok (.value (.pointer (some ⟨b, o, none⟩))) w := by kernel_rfl
theorem fa86_0 {b o : Nat} {K : Value → C} {pn : Pn} : nextS P (V (Instr.fieldAt 86 (.pointer (some ⟨b, o, none⟩)) 0)) K pn = K (.pointer (some ⟨b, o, none⟩)) := nx_val fun w => fp86_0 w
theorem fp86_1 {b o : Nat} (w : World) : (V (Instr.fieldAt 86 (.pointer (some ⟨b, o, none⟩)) 1)).run P w = .ok (.value (.pointer (some ⟨b, o + 1, none⟩))) w := by kernel_rfl
theorem fa86_1 {b o : Nat} {K : Value → C} {pn : Pn} : nextS P (V (Instr.fieldAt 86 (.pointer (some ⟨b, o, none⟩)) 1)) K pn = K (.pointer (some ⟨b, o + 1, none⟩)) := nx_val fun w => fp86_1 w
theorem fp92_0 {b o : Nat} (w : World) : (V (Instr.fieldAt 92 (.pointer (some ⟨b, o, none⟩)) 0)).run P w = .ok (.value (.pointer (some ⟨b, o, none⟩))) w := by kernel_rfl
theorem fa92_0 {b o : Nat} {K : Value → C} {pn : Pn} : nextS P (V (Instr.fieldAt 92 (.pointer (some ⟨b, o, none⟩)) 0)) K pn = K (.pointer (some ⟨b, o, none⟩)) := nx_val fun w => fp92_0 w
theorem fp92_1 {b o : Nat} (w : World) : (V (Instr.fieldAt 92 (.pointer (some ⟨b, o, none⟩)) 1)).run P w = .ok (.value (.pointer (some ⟨b, o + 1, none⟩))) w := by kernel_rfl
theorem fa92_1 {b o : Nat} {K : Value → C} {pn : Pn} : nextS P (V (Instr.fieldAt 92 (.pointer (some ⟨b, o, none⟩)) 1)) K pn = K (.pointer (some ⟨b, o + 1, none⟩)) := nx_val fun w => fp92_1 w
theorem fp92_2 {b o : Nat} (w : World) : (V (Instr.fieldAt 92 (.pointer (some ⟨b, o, none⟩)) 2)).run P w = .ok (.value (.pointer (some ⟨b, o + 2, none⟩))) w := by kernel_rfl
theorem fa92_2 {b o : Nat} {K : Value → C} {pn : Pn} : nextS P (V (Instr.fieldAt 92 (.pointer (some ⟨b, o, none⟩)) 2)) K pn = K (.pointer (some ⟨b, o + 2, none⟩)) := nx_val fun w => fp92_2 w
theorem fp92_3 {b o : Nat} (w : World) : (V (Instr.fieldAt 92 (.pointer (some ⟨b, o, none⟩)) 3)).run P w = .ok (.value (.pointer (some ⟨b, o + 3, none⟩))) w := by kernel_rfl
theorem fa92_3 {b o : Nat} {K : Value → C} {pn : Pn} : nextS P (V (Instr.fieldAt 92 (.pointer (some ⟨b, o, none⟩)) 3)) K pn = K (.pointer (some ⟨b, o + 3, none⟩)) := nx_val fun w => fp92_3 w
theorem fp92_4 {b o : Nat} (w : World) : (V (Instr.fieldAt 92 (.pointer (some ⟨b, o, none⟩)) 4)).run P w = .ok (.value (.pointer (some ⟨b, o + 4, none⟩))) w := by kernel_rfl
theorem fa92_4 {b o : Nat} {K : Value → C} {pn : Pn} : nextS P (V (Instr.fieldAt 92 (.pointer (some ⟨b, o, none⟩)) 4)) K pn = K (.pointer (some ⟨b, o + 4, none⟩)) := nx_val fun w => fp92_4 w
theorem fp98_0 {b o : Nat} (w : World) : (V (Instr.fieldAt 98 (.pointer (some ⟨b, o, none⟩)) 0)).run P w = .ok (.value (.pointer (some ⟨b, o, none⟩))) w := by kernel_rfl
theorem fa98_0 {b o : Nat} {K : Value → C} {pn : Pn} : nextS P (V (Instr.fieldAt 98 (.pointer (some ⟨b, o, none⟩)) 0)) K pn = K (.pointer (some ⟨b, o, none⟩)) := nx_val fun w => fp98_0 w
theorem fp98_1 {b o : Nat} (w : World) : (V (Instr.fieldAt 98 (.pointer (some ⟨b, o, none⟩)) 1)).run P w = .ok (.value (.pointer (some ⟨b, o + 1, none⟩))) w := by kernel_rfl
theorem fa98_1 {b o : Nat} {K : Value → C} {pn : Pn} : nextS P (V (Instr.fieldAt 98 (.pointer (some ⟨b, o, none⟩)) 1)) K pn = K (.pointer (some ⟨b, o + 1, none⟩)) := nx_val fun w => fp98_1 w
theorem fp107_0 {b o : Nat} (w : World) : (V (Instr.fieldAt 107 (.pointer (some ⟨b, o, none⟩)) 0)).run P w = .ok (.value (.pointer (some ⟨b, o, none⟩))) w := by kernel_rfl
theorem fa107_0 {b o : Nat} {K : Value → C} {pn : Pn} : nextS P (V (Instr.fieldAt 107 (.pointer (some ⟨b, o, none⟩)) 0)) K pn = K (.pointer (some ⟨b, o, none⟩)) := nx_val fun w => fp107_0 w
theorem fp107_1 {b o : Nat} (w : World) : (V (Instr.fieldAt 107 (.pointer (some ⟨b, o, none⟩)) 1)).run P w = .ok (.value (.pointer (some ⟨b, o + 1, none⟩))) w := by kernel_rfl
theorem fa107_1 {b o : Nat} {K : Value → C} {pn : Pn} : nextS P (V (Instr.fieldAt 107 (.pointer (some ⟨b, o, none⟩)) 1)) K pn = K (.pointer (some ⟨b, o + 1, none⟩)) := nx_val fun w => fp107_1 w
theorem fp107_2 {b o : Nat} (w : World) : (V (Instr.fieldAt 107 (.pointer (some ⟨b, o, none⟩)) 2)).run P w = .ok (.value (.pointer (some ⟨b, o + 2, none⟩))) w := by kernel_rfl
theorem fa107_2 {b o : Nat} {K : Value → C} {pn : Pn} : nextS P (V (Instr.fieldAt 107 (.pointer (some ⟨b, o, none⟩)) 2)) K pn = K (.pointer (some ⟨b, o + 2, none⟩)) := nx_val fun w => fp107_2 w
theorem fp110_0 {b o : Nat} (w : World) : (V (Instr.fieldAt 110 (.pointer (some ⟨b, o, none⟩)) 0)).run P w = .ok (.value (.pointer (some ⟨b, o, none⟩))) w := by kernel_rfl
theorem fa110_0 {b o : Nat} {K : Value → C} {pn : Pn} : nextS P (V (Instr.fieldAt 110 (.pointer (some ⟨b, o, none⟩)) 0)) K pn = K (.pointer (some ⟨b, o, none⟩)) := nx_val fun w => fp110_0 w
theorem fp112_0 {b o : Nat} (w : World) : (V (Instr.fieldAt 112 (.pointer (some ⟨b, o, none⟩)) 0)).run P w = .ok (.value (.pointer (some ⟨b, o, none⟩))) w := by kernel_rfl
theorem fa112_0 {b o : Nat} {K : Value → C} {pn : Pn} : nextS P (V (Instr.fieldAt 112 (.pointer (some ⟨b, o, none⟩)) 0)) K pn = K (.pointer (some ⟨b, o, none⟩)) := nx_val fun w => fp112_0 w
theorem fp112_1 {b o : Nat} (w : World) : (V (Instr.fieldAt 112 (.pointer (some ⟨b, o, none⟩)) 1)).run P w = .ok (.value (.pointer (some ⟨b, o + 1, none⟩))) w := by kernel_rfl
theorem fa112_1 {b o : Nat} {K : Value → C} {pn : Pn} : nextS P (V (Instr.fieldAt 112 (.pointer (some ⟨b, o, none⟩)) 1)) K pn = K (.pointer (some ⟨b, o + 1, none⟩)) := nx_val fun w => fp112_1 w
theorem fp115_0 {b o : Nat} (w : World) : (V (Instr.fieldAt 115 (.pointer (some ⟨b, o, none⟩)) 0)).run P w = .ok (.value (.pointer (some ⟨b, o, none⟩))) w := by kernel_rfl
theorem fa115_0 {b o : Nat} {K : Value → C} {pn : Pn} : nextS P (V (Instr.fieldAt 115 (.pointer (some ⟨b, o, none⟩)) 0)) K pn = K (.pointer (some ⟨b, o, none⟩)) := nx_val fun w => fp115_0 w
theorem fp115_1 {b o : Nat} (w : World) : (V (Instr.fieldAt 115 (.pointer (some ⟨b, o, none⟩)) 1)).run P w = .ok (.value (.pointer (some ⟨b, o + 1, none⟩))) w := by kernel_rfl
theorem fa115_1 {b o : Nat} {K : Value → C} {pn : Pn} : nextS P (V (Instr.fieldAt 115 (.pointer (some ⟨b, o, none⟩)) 1)) K pn = K (.pointer (some ⟨b, o + 1, none⟩)) := nx_val fun w => fp115_1 w
theorem fp115_2 {b o : Nat} (w : World) : (V (Instr.fieldAt 115 (.pointer (some ⟨b, o, none⟩)) 2)).run P w = .ok (.value (.pointer (some ⟨b, o + 2, none⟩))) w := by kernel_rfl
theorem fa115_2 {b o : Nat} {K : Value → C} {pn : Pn} : nextS P (V (Instr.fieldAt 115 (.pointer (some ⟨b, o, none⟩)) 2)) K pn = K (.pointer (some ⟨b, o + 2, none⟩)) := nx_val fun w => fp115_2 w
theorem fp162_0 {b o : Nat} (w : World) : (V (Instr.fieldAt 162 (.pointer (some ⟨b, o, none⟩)) 0)).run P w = .ok (.value (.pointer (some ⟨b, o, none⟩))) w := by kernel_rfl
theorem fa162_0 {b o : Nat} {K : Value → C} {pn : Pn} : nextS P (V (Instr.fieldAt 162 (.pointer (some ⟨b, o, none⟩)) 0)) K pn = K (.pointer (some ⟨b, o, none⟩)) := nx_val fun w => fp162_0 w
/-- All of them under one name, for simp. -/
theorem pureT :
    (∀ (s : ByteArray) (ty : TypeId) (cons : Array Bool) (K : Value → C) (pn : Pn), nextS P (bltN .len #[9] ty cons #[.string s]) K pn = K (.int .i64 s.size)) ∧
    (∀ (a : Option Addr) (n c : Nat) (ty : TypeId) (cons : Array Bool) (K : Value → C) (pn : Pn), nextS P (bltN .len #[22] ty cons #[.slice a n c]) K pn = K (.int .i64 n)) ∧
    (∀ (a : Option Addr) (n c : Nat) (ty : TypeId) (cons : Array Bool) (K : Value → C) (pn : Pn), nextS P (bltN .len #[25] ty cons #[.slice a n c]) K pn = K (.int .i64 n)) ∧
    (∀ (a : Option Addr) (n c : Nat) (ty : TypeId) (cons : Array Bool) (K : Value → C) (pn : Pn), nextS P (bltN .len #[26] ty cons #[.slice a n c]) K pn = K (.int .i64 n)) ∧
    (∀ (a : Option Addr) (n c : Nat) (ty : TypeId) (cons : Array Bool) (K : Value → C) (pn : Pn), nextS P (bltN .len #[27] ty cons #[.slice a n c]) K pn = K (.int .i64 n)) ∧
    (∀ (a : Option Addr) (n c : Nat) (ty : TypeId) (cons : Array Bool) (K : Value → C) (pn : Pn), nextS P (bltN .len #[34] ty cons #[.slice a n c]) K pn = K (.int .i64 n)) ∧
    (∀ (a : Option Addr) (n c : Nat) (ty : TypeId) (cons : Array Bool) (K : Value → C) (pn : Pn), nextS P (bltN .len #[36] ty cons #[.slice a n c]) K pn = K (.int .i64 n)) ∧
    (∀ (a : Option Addr) (n c : Nat) (ty : TypeId) (cons : Array Bool) (K : Value → C) (pn : Pn), nextS P (bltN .len #[41] ty cons #[.slice a n c]) K pn = K (.int .i64 n)) ∧
    (∀ (a : Option Addr) (n c : Nat) (ty : TypeId) (cons : Array Bool) (K : Value → C) (pn : Pn), nextS P (bltN .len #[45] ty cons #[.slice a n c]) K pn = K (.int .i64 n)) ∧
    (∀ (a : Option Addr) (n c : Nat) (ty : TypeId) (cons : Array Bool) (K : Value → C) (pn : Pn), nextS P (bltN .len #[47] ty cons #[.slice a n c]) K pn = K (.int .i64 n)) ∧
    (∀ (a : Option Addr) (n c : Nat) (ty : TypeId) (cons : Array Bool) (K : Value → C) (pn : Pn), nextS P (bltN .len #[48] ty cons #[.slice a n c]) K pn = K (.int .i64 n)) ∧
    (∀ (a : Option Addr) (n c : Nat) (ty : TypeId) (cons : Array Bool) (K : Value → C) (pn : Pn), nextS P (bltN .len #[56] ty cons #[.slice a n c]) K pn = K (.int .i64 n)) ∧
    (∀ (a : Option Addr) (n c : Nat) (ty : TypeId) (cons : Array Bool) (K : Value → C) (pn : Pn), nextS P (bltN .len #[71] ty cons #[.slice a n c]) K pn = K (.int .i64 n)) ∧
    (∀ (a : Option Addr) (n c : Nat) (ty : TypeId) (cons : Array Bool) (K : Value → C) (pn : Pn), nextS P (bltN .len #[96] ty cons #[.slice a n c]) K pn = K (.int .i64 n)) ∧
    (∀ (a : Option Addr) (n c : Nat) (ty : TypeId) (cons : Array Bool) (K : Value → C) (pn : Pn), nextS P (bltN .len #[108] ty cons #[.slice a n c]) K pn = K (.int .i64 n)) ∧
    (∀ (a : Option Addr) (n c : Nat) (ty : TypeId) (cons : Array Bool) (K : Value → C) (pn : Pn), nextS P (bltN .len #[126] ty cons #[.slice a n c]) K pn = K (.int .i64 n)) ∧
    (∀ (b o : Nat) (K : Value → C) (pn : Pn), nextS P (V (Instr.fieldAt 24 (.pointer (some ⟨b, o, none⟩)) 0)) K pn = K (.pointer (some ⟨b, o, none⟩))) ∧
    (∀ (b o : Nat) (K : Value → C), pureS P (V (Instr.fieldAt 24 (.pointer (some ⟨b, o, none⟩)) 0)) K = K (.pointer (some ⟨b, o, none⟩))) ∧
    (∀ (b o : Nat) (K : Value → C) (pn : Pn), nextS P (V (Instr.fieldAt 40 (.pointer (some ⟨b, o, none⟩)) 0)) K pn = K (.pointer (some ⟨b, o, none⟩))) ∧
    (∀ (b o : Nat) (K : Value → C), pureS P (V (Instr.fieldAt 40 (.pointer (some ⟨b, o, none⟩)) 0)) K = K (.pointer (some ⟨b, o, none⟩))) ∧
    (∀ (b o : Nat) (K : Value → C) (pn : Pn), nextS P (V (Instr.fieldAt 40 (.pointer (some ⟨b, o, none⟩)) 1)) K pn = K (.pointer (some ⟨b, o + 1, none⟩))) ∧
    (∀ (b o : Nat) (K : Value → C), pureS P (V (Instr.fieldAt 40 (.pointer (some ⟨b, o, none⟩)) 1)) K = K (.pointer (some ⟨b, o + 1, none⟩))) ∧
    (∀ (b o : Nat) (K : Value → C) (pn : Pn), nextS P (V (Instr.fieldAt 50 (.pointer (some ⟨b, o, none⟩)) 0)) K pn = K (.pointer (some ⟨b, o, none⟩))) ∧
    (∀ (b o : Nat) (K : Value → C), pureS P (V (Instr.fieldAt 50 (.pointer (some ⟨b, o, none⟩)) 0)) K = K (.pointer (some ⟨b, o, none⟩))) ∧
    (∀ (b o : Nat) (K : Value → C) (pn : Pn), nextS P (V (Instr.fieldAt 50 (.pointer (some ⟨b, o, none⟩)) 1)) K pn = K (.pointer (some ⟨b, o + 1, none⟩))) ∧
    (∀ (b o : Nat) (K : Value → C), pureS P (V (Instr.fieldAt 50 (.pointer (some ⟨b, o, none⟩)) 1)) K = K (.pointer (some ⟨b, o + 1, none⟩))) ∧
    (∀ (b o : Nat) (K : Value → C) (pn : Pn), nextS P (V (Instr.fieldAt 50 (.pointer (some ⟨b, o, none⟩)) 2)) K pn = K (.pointer (some ⟨b, o + 2, none⟩))) ∧
    (∀ (b o : Nat) (K : Value → C), pureS P (V (Instr.fieldAt 50 (.pointer (some ⟨b, o, none⟩)) 2)) K = K (.pointer (some ⟨b, o + 2, none⟩))) ∧
    (∀ (b o : Nat) (K : Value → C) (pn : Pn), nextS P (V (Instr.fieldAt 50 (.pointer (some ⟨b, o, none⟩)) 3)) K pn = K (.pointer (some ⟨b, o + 3, none⟩))) ∧
    (∀ (b o : Nat) (K : Value → C), pureS P (V (Instr.fieldAt 50 (.pointer (some ⟨b, o, none⟩)) 3)) K = K (.pointer (some ⟨b, o + 3, none⟩))) ∧
    (∀ (b o : Nat) (K : Value → C) (pn : Pn), nextS P (V (Instr.fieldAt 50 (.pointer (some ⟨b, o, none⟩)) 4)) K pn = K (.pointer (some ⟨b, o + 4, none⟩))) ∧
    (∀ (b o : Nat) (K : Value → C), pureS P (V (Instr.fieldAt 50 (.pointer (some ⟨b, o, none⟩)) 4)) K = K (.pointer (some ⟨b, o + 4, none⟩))) ∧
    (∀ (b o : Nat) (K : Value → C) (pn : Pn), nextS P (V (Instr.fieldAt 50 (.pointer (some ⟨b, o, none⟩)) 5)) K pn = K (.pointer (some ⟨b, o + 5, none⟩))) ∧
    (∀ (b o : Nat) (K : Value → C), pureS P (V (Instr.fieldAt 50 (.pointer (some ⟨b, o, none⟩)) 5)) K = K (.pointer (some ⟨b, o + 5, none⟩))) ∧
    (∀ (b o : Nat) (K : Value → C) (pn : Pn), nextS P (V (Instr.fieldAt 52 (.pointer (some ⟨b, o, none⟩)) 0)) K pn = K (.pointer (some ⟨b, o, none⟩))) ∧
    (∀ (b o : Nat) (K : Value → C), pureS P (V (Instr.fieldAt 52 (.pointer (some ⟨b, o, none⟩)) 0)) K = K (.pointer (some ⟨b, o, none⟩))) ∧
    (∀ (b o : Nat) (K : Value → C) (pn : Pn), nextS P (V (Instr.fieldAt 52 (.pointer (some ⟨b, o, none⟩)) 1)) K pn = K (.pointer (some ⟨b, o + 1, none⟩))) ∧
    (∀ (b o : Nat) (K : Value → C), pureS P (V (Instr.fieldAt 52 (.pointer (some ⟨b, o, none⟩)) 1)) K = K (.pointer (some ⟨b, o + 1, none⟩))) ∧
    (∀ (b o : Nat) (K : Value → C) (pn : Pn), nextS P (V (Instr.fieldAt 53 (.pointer (some ⟨b, o, none⟩)) 0)) K pn = K (.pointer (some ⟨b, o, none⟩))) ∧
    (∀ (b o : Nat) (K : Value → C), pureS P (V (Instr.fieldAt 53 (.pointer (some ⟨b, o, none⟩)) 0)) K = K (.pointer (some ⟨b, o, none⟩))) ∧
    (∀ (b o : Nat) (K : Value → C) (pn : Pn), nextS P (V (Instr.fieldAt 53 (.pointer (some ⟨b, o, none⟩)) 1)) K pn = K (.pointer (some ⟨b, o + 1, none⟩))) ∧
    (∀ (b o : Nat) (K : Value → C), pureS P (V (Instr.fieldAt 53 (.pointer (some ⟨b, o, none⟩)) 1)) K = K (.pointer (some ⟨b, o + 1, none⟩))) ∧
    (∀ (b o : Nat) (K : Value → C) (pn : Pn), nextS P (V (Instr.fieldAt 59 (.pointer (some ⟨b, o, none⟩)) 0)) K pn = K (.pointer (some ⟨b, o, none⟩))) ∧
    (∀ (b o : Nat) (K : Value → C), pureS P (V (Instr.fieldAt 59 (.pointer (some ⟨b, o, none⟩)) 0)) K = K (.pointer (some ⟨b, o, none⟩))) ∧
    (∀ (b o : Nat) (K : Value → C) (pn : Pn), nextS P (V (Instr.fieldAt 59 (.pointer (some ⟨b, o, none⟩)) 1)) K pn = K (.pointer (some ⟨b, o + 1, none⟩))) ∧
    (∀ (b o : Nat) (K : Value → C), pureS P (V (Instr.fieldAt 59 (.pointer (some ⟨b, o, none⟩)) 1)) K = K (.pointer (some ⟨b, o + 1, none⟩))) ∧
    (∀ (b o : Nat) (K : Value → C) (pn : Pn), nextS P (V (Instr.fieldAt 59 (.pointer (some ⟨b, o, none⟩)) 2)) K pn = K (.pointer (some ⟨b, o + 2, none⟩))) ∧
    (∀ (b o : Nat) (K : Value → C), pureS P (V (Instr.fieldAt 59 (.pointer (some ⟨b, o, none⟩)) 2)) K = K (.pointer (some ⟨b, o + 2, none⟩))) ∧
    (∀ (b o : Nat) (K : Value → C) (pn : Pn), nextS P (V (Instr.fieldAt 59 (.pointer (some ⟨b, o, none⟩)) 3)) K pn = K (.pointer (some ⟨b, o + 3, none⟩))) ∧
    (∀ (b o : Nat) (K : Value → C), pureS P (V (Instr.fieldAt 59 (.pointer (some ⟨b, o, none⟩)) 3)) K = K (.pointer (some ⟨b, o + 3, none⟩))) ∧
    (∀ (b o : Nat) (K : Value → C) (pn : Pn), nextS P (V (Instr.fieldAt 59 (.pointer (some ⟨b, o, none⟩)) 4)) K pn = K (.pointer (some ⟨b, o + 4, none⟩))) ∧
    (∀ (b o : Nat) (K : Value → C), pureS P (V (Instr.fieldAt 59 (.pointer (some ⟨b, o, none⟩)) 4)) K = K (.pointer (some ⟨b, o + 4, none⟩))) ∧
    (∀ (b o : Nat) (K : Value → C) (pn : Pn), nextS P (V (Instr.fieldAt 66 (.pointer (some ⟨b, o, none⟩)) 0)) K pn = K (.pointer (some ⟨b, o, none⟩))) ∧
    (∀ (b o : Nat) (K : Value → C), pureS P (V (Instr.fieldAt 66 (.pointer (some ⟨b, o, none⟩)) 0)) K = K (.pointer (some ⟨b, o, none⟩))) ∧
    (∀ (b o : Nat) (K : Value → C) (pn : Pn), nextS P (V (Instr.fieldAt 66 (.pointer (some ⟨b, o, none⟩)) 1)) K pn = K (.pointer (some ⟨b, o + 1, none⟩))) ∧
    (∀ (b o : Nat) (K : Value → C), pureS P (V (Instr.fieldAt 66 (.pointer (some ⟨b, o, none⟩)) 1)) K = K (.pointer (some ⟨b, o + 1, none⟩))) ∧
    (∀ (b o : Nat) (K : Value → C) (pn : Pn), nextS P (V (Instr.fieldAt 66 (.pointer (some ⟨b, o, none⟩)) 2)) K pn = K (.pointer (some ⟨b, o + 2, none⟩))) ∧
    (∀ (b o : Nat) (K : Value → C), pureS P (V (Instr.fieldAt 66 (.pointer (some ⟨b, o, none⟩)) 2)) K = K (.pointer (some ⟨b, o + 2, none⟩))) ∧
    (∀ (b o : Nat) (K : Value → C) (pn : Pn), nextS P (V (Instr.fieldAt 66 (.pointer (some ⟨b, o, none⟩)) 3)) K pn = K (.pointer (some ⟨b, o + 3, none⟩))) ∧
    (∀ (b o : Nat) (K : Value → C), pureS P (V (Instr.fieldAt 66 (.pointer (some ⟨b, o, none⟩)) 3)) K = K (.pointer (some ⟨b, o + 3, none⟩))) ∧
    (∀ (b o : Nat) (K : Value → C) (pn : Pn), nextS P (V (Instr.fieldAt 66 (.pointer (some ⟨b, o, none⟩)) 4)) K pn = K (.pointer (some ⟨b, o + 4, none⟩))) ∧
    (∀ (b o : Nat) (K : Value → C), pureS P (V (Instr.fieldAt 66 (.pointer (some ⟨b, o, none⟩)) 4)) K = K (.pointer (some ⟨b, o + 4, none⟩))) ∧
    (∀ (b o : Nat) (K : Value → C) (pn : Pn), nextS P (V (Instr.fieldAt 66 (.pointer (some ⟨b, o, none⟩)) 5)) K pn = K (.pointer (some ⟨b, o + 5, none⟩))) ∧
    (∀ (b o : Nat) (K : Value → C), pureS P (V (Instr.fieldAt 66 (.pointer (some ⟨b, o, none⟩)) 5)) K = K (.pointer (some ⟨b, o + 5, none⟩))) ∧
    (∀ (b o : Nat) (K : Value → C) (pn : Pn), nextS P (V (Instr.fieldAt 66 (.pointer (some ⟨b, o, none⟩)) 6)) K pn = K (.pointer (some ⟨b, o + 6, none⟩))) ∧
    (∀ (b o : Nat) (K : Value → C), pureS P (V (Instr.fieldAt 66 (.pointer (some ⟨b, o, none⟩)) 6)) K = K (.pointer (some ⟨b, o + 6, none⟩))) ∧
    (∀ (b o : Nat) (K : Value → C) (pn : Pn), nextS P (V (Instr.fieldAt 69 (.pointer (some ⟨b, o, none⟩)) 0)) K pn = K (.pointer (some ⟨b, o, none⟩))) ∧
    (∀ (b o : Nat) (K : Value → C), pureS P (V (Instr.fieldAt 69 (.pointer (some ⟨b, o, none⟩)) 0)) K = K (.pointer (some ⟨b, o, none⟩))) ∧
    (∀ (b o : Nat) (K : Value → C) (pn : Pn), nextS P (V (Instr.fieldAt 69 (.pointer (some ⟨b, o, none⟩)) 1)) K pn = K (.pointer (some ⟨b, o + 1, none⟩))) ∧
    (∀ (b o : Nat) (K : Value → C), pureS P (V (Instr.fieldAt 69 (.pointer (some ⟨b, o, none⟩)) 1)) K = K (.pointer (some ⟨b, o + 1, none⟩))) ∧
    (∀ (b o : Nat) (K : Value → C) (pn : Pn), nextS P (V (Instr.fieldAt 69 (.pointer (some ⟨b, o, none⟩)) 2)) K pn = K (.pointer (some ⟨b, o + 2, none⟩))) ∧
    (∀ (b o : Nat) (K : Value → C), pureS P (V (Instr.fieldAt 69 (.pointer (some ⟨b, o, none⟩)) 2)) K = K (.pointer (some ⟨b, o + 2, none⟩))) ∧
    (∀ (b o : Nat) (K : Value → C) (pn : Pn), nextS P (V (Instr.fieldAt 74 (.pointer (some ⟨b, o, none⟩)) 1)) K pn = K (.pointer (some ⟨b, o + 1, none⟩))) ∧
    (∀ (b o : Nat) (K : Value → C), pureS P (V (Instr.fieldAt 74 (.pointer (some ⟨b, o, none⟩)) 1)) K = K (.pointer (some ⟨b, o + 1, none⟩))) ∧
    (∀ (b o : Nat) (K : Value → C) (pn : Pn), nextS P (V (Instr.fieldAt 74 (.pointer (some ⟨b, o, none⟩)) 4)) K pn = K (.pointer (some ⟨b, o + 4, none⟩))) ∧
    (∀ (b o : Nat) (K : Value → C), pureS P (V (Instr.fieldAt 74 (.pointer (some ⟨b, o, none⟩)) 4)) K = K (.pointer (some ⟨b, o + 4, none⟩))) ∧
    (∀ (b o : Nat) (K : Value → C) (pn : Pn), nextS P (V (Instr.fieldAt 75 (.pointer (some ⟨b, o, none⟩)) 0)) K pn = K (.pointer (some ⟨b, o, none⟩))) ∧
    (∀ (b o : Nat) (K : Value → C), pureS P (V (Instr.fieldAt 75 (.pointer (some ⟨b, o, none⟩)) 0)) K = K (.pointer (some ⟨b, o, none⟩))) ∧
    (∀ (b o : Nat) (K : Value → C) (pn : Pn), nextS P (V (Instr.fieldAt 75 (.pointer (some ⟨b, o, none⟩)) 1)) K pn = K (.pointer (some ⟨b, o + 1, none⟩))) ∧
    (∀ (b o : Nat) (K : Value → C), pureS P (V (Instr.fieldAt 75 (.pointer (some ⟨b, o, none⟩)) 1)) K = K (.pointer (some ⟨b, o + 1, none⟩))) ∧
    (∀ (b o : Nat) (K : Value → C) (pn : Pn), nextS P (V (Instr.fieldAt 75 (.pointer (some ⟨b, o, none⟩)) 2)) K pn = K (.pointer (some ⟨b, o + 2, none⟩))) ∧
    (∀ (b o : Nat) (K : Value → C), pureS P (V (Instr.fieldAt 75 (.pointer (some ⟨b, o, none⟩)) 2)) K = K (.pointer (some ⟨b, o + 2, none⟩))) ∧
    (∀ (b o : Nat) (K : Value → C) (pn : Pn), nextS P (V (Instr.fieldAt 86 (.pointer (some ⟨b, o, none⟩)) 0)) K pn = K (.pointer (some ⟨b, o, none⟩))) ∧
    (∀ (b o : Nat) (K : Value → C), pureS P (V (Instr.fieldAt 86 (.pointer (some ⟨b, o, none⟩)) 0)) K = K (.pointer (some ⟨b, o, none⟩))) ∧
    (∀ (b o : Nat) (K : Value → C) (pn : Pn), nextS P (V (Instr.fieldAt 86 (.pointer (some ⟨b, o, none⟩)) 1)) K pn = K (.pointer (some ⟨b, o + 1, none⟩))) ∧
    (∀ (b o : Nat) (K : Value → C), pureS P (V (Instr.fieldAt 86 (.pointer (some ⟨b, o, none⟩)) 1)) K = K (.pointer (some ⟨b, o + 1, none⟩))) ∧
    (∀ (b o : Nat) (K : Value → C) (pn : Pn), nextS P (V (Instr.fieldAt 92 (.pointer (some ⟨b, o, none⟩)) 0)) K pn = K (.pointer (some ⟨b, o, none⟩))) ∧
    (∀ (b o : Nat) (K : Value → C), pureS P (V (Instr.fieldAt 92 (.pointer (some ⟨b, o, none⟩)) 0)) K = K (.pointer (some ⟨b, o, none⟩))) ∧
    (∀ (b o : Nat) (K : Value → C) (pn : Pn), nextS P (V (Instr.fieldAt 92 (.pointer (some ⟨b, o, none⟩)) 1)) K pn = K (.pointer (some ⟨b, o + 1, none⟩))) ∧
    (∀ (b o : Nat) (K : Value → C), pureS P (V (Instr.fieldAt 92 (.pointer (some ⟨b, o, none⟩)) 1)) K = K (.pointer (some ⟨b, o + 1, none⟩))) ∧
    (∀ (b o : Nat) (K : Value → C) (pn : Pn), nextS P (V (Instr.fieldAt 92 (.pointer (some ⟨b, o, none⟩)) 2)) K pn = K (.pointer (some ⟨b, o + 2, none⟩))) ∧
    (∀ (b o : Nat) (K : Value → C), pureS P (V (Instr.fieldAt 92 (.pointer (some ⟨b, o, none⟩)) 2)) K = K (.pointer (some ⟨b, o + 2, none⟩))) ∧
    (∀ (b o : Nat) (K : Value → C) (pn : Pn), nextS P (V (Instr.fieldAt 92 (.pointer (some ⟨b, o, none⟩)) 3)) K pn = K (.pointer (some ⟨b, o + 3, none⟩))) ∧
    (∀ (b o : Nat) (K : Value → C), pureS P (V (Instr.fieldAt 92 (.pointer (some ⟨b, o, none⟩)) 3)) K = K (.pointer (some ⟨b, o + 3, none⟩))) ∧
    (∀ (b o : Nat) (K : Value → C) (pn : Pn), nextS P (V (Instr.fieldAt 92 (.pointer (some ⟨b, o, none⟩)) 4)) K pn = K (.pointer (some ⟨b, o + 4, none⟩))) ∧
    (∀ (b o : Nat) (K : Value → C), pureS P (V (Instr.fieldAt 92 (.pointer (some ⟨b, o, none⟩)) 4)) K = K (.pointer (some ⟨b, o + 4, none⟩))) ∧
    (∀ (b o : Nat) (K : Value → C) (pn : Pn), nextS P (V (Instr.fieldAt 98 (.pointer (some ⟨b, o, none⟩)) 0)) K pn = K (.pointer (some ⟨b, o, none⟩))) ∧
    (∀ (b o : Nat) (K : Value → C), pureS P (V (Instr.fieldAt 98 (.pointer (some ⟨b, o, none⟩)) 0)) K = K (.pointer (some ⟨b, o, none⟩))) ∧
    (∀ (b o : Nat) (K : Value → C) (pn : Pn), nextS P (V (Instr.fieldAt 98 (.pointer (some ⟨b, o, none⟩)) 1)) K pn = K (.pointer (some ⟨b, o + 1, none⟩))) ∧
    (∀ (b o : Nat) (K : Value → C), pureS P (V (Instr.fieldAt 98 (.pointer (some ⟨b, o, none⟩)) 1)) K = K (.pointer (some ⟨b, o + 1, none⟩))) ∧
    (∀ (b o : Nat) (K : Value → C) (pn : Pn), nextS P (V (Instr.fieldAt 107 (.pointer (some ⟨b, o, none⟩)) 0)) K pn = K (.pointer (some ⟨b, o, none⟩))) ∧
    (∀ (b o : Nat) (K : Value → C), pureS P (V (Instr.fieldAt 107 (.pointer (some ⟨b, o, none⟩)) 0)) K = K (.pointer (some ⟨b, o, none⟩))) ∧
    (∀ (b o : Nat) (K : Value → C) (pn : Pn), nextS P (V (Instr.fieldAt 107 (.pointer (some ⟨b, o, none⟩)) 1)) K pn = K (.pointer (some ⟨b, o + 1, none⟩))) ∧
    (∀ (b o : Nat) (K : Value → C), pureS P (V (Instr.fieldAt 107 (.pointer (some ⟨b, o, none⟩)) 1)) K = K (.pointer (some ⟨b, o + 1, none⟩))) ∧
    (∀ (b o : Nat) (K : Value → C) (pn : Pn), nextS P (V (Instr.fieldAt 107 (.pointer (some ⟨b, o, none⟩)) 2)) K pn = K (.pointer (some ⟨b, o + 2, none⟩))) ∧
    (∀ (b o : Nat) (K : Value → C), pureS P (V (Instr.fieldAt 107 (.pointer (some ⟨b, o, none⟩)) 2)) K = K (.pointer (some ⟨b, o + 2, none⟩))) ∧
    (∀ (b o : Nat) (K : Value → C) (pn : Pn), nextS P (V (Instr.fieldAt 110 (.pointer (some ⟨b, o, none⟩)) 0)) K pn = K (.pointer (some ⟨b, o, none⟩))) ∧
    (∀ (b o : Nat) (K : Value → C), pureS P (V (Instr.fieldAt 110 (.pointer (some ⟨b, o, none⟩)) 0)) K = K (.pointer (some ⟨b, o, none⟩))) ∧
    (∀ (b o : Nat) (K : Value → C) (pn : Pn), nextS P (V (Instr.fieldAt 112 (.pointer (some ⟨b, o, none⟩)) 0)) K pn = K (.pointer (some ⟨b, o, none⟩))) ∧
    (∀ (b o : Nat) (K : Value → C), pureS P (V (Instr.fieldAt 112 (.pointer (some ⟨b, o, none⟩)) 0)) K = K (.pointer (some ⟨b, o, none⟩))) ∧
    (∀ (b o : Nat) (K : Value → C) (pn : Pn), nextS P (V (Instr.fieldAt 112 (.pointer (some ⟨b, o, none⟩)) 1)) K pn = K (.pointer (some ⟨b, o + 1, none⟩))) ∧
    (∀ (b o : Nat) (K : Value → C), pureS P (V (Instr.fieldAt 112 (.pointer (some ⟨b, o, none⟩)) 1)) K = K (.pointer (some ⟨b, o + 1, none⟩))) ∧
    (∀ (b o : Nat) (K : Value → C) (pn : Pn), nextS P (V (Instr.fieldAt 115 (.pointer (some ⟨b, o, none⟩)) 0)) K pn = K (.pointer (some ⟨b, o, none⟩))) ∧
    (∀ (b o : Nat) (K : Value → C), pureS P (V (Instr.fieldAt 115 (.pointer (some ⟨b, o, none⟩)) 0)) K = K (.pointer (some ⟨b, o, none⟩))) ∧
    (∀ (b o : Nat) (K : Value → C) (pn : Pn), nextS P (V (Instr.fieldAt 115 (.pointer (some ⟨b, o, none⟩)) 1)) K pn = K (.pointer (some ⟨b, o + 1, none⟩))) ∧
    (∀ (b o : Nat) (K : Value → C), pureS P (V (Instr.fieldAt 115 (.pointer (some ⟨b, o, none⟩)) 1)) K = K (.pointer (some ⟨b, o + 1, none⟩))) ∧
    (∀ (b o : Nat) (K : Value → C) (pn : Pn), nextS P (V (Instr.fieldAt 115 (.pointer (some ⟨b, o, none⟩)) 2)) K pn = K (.pointer (some ⟨b, o + 2, none⟩))) ∧
    (∀ (b o : Nat) (K : Value → C), pureS P (V (Instr.fieldAt 115 (.pointer (some ⟨b, o, none⟩)) 2)) K = K (.pointer (some ⟨b, o + 2, none⟩))) ∧
    (∀ (b o : Nat) (K : Value → C) (pn : Pn), nextS P (V (Instr.fieldAt 162 (.pointer (some ⟨b, o, none⟩)) 0)) K pn = K (.pointer (some ⟨b, o, none⟩))) ∧
    (∀ (b o : Nat) (K : Value → C), pureS P (V (Instr.fieldAt 162 (.pointer (some ⟨b, o, none⟩)) 0)) K = K (.pointer (some ⟨b, o, none⟩))) :=
  ⟨by intros; exact len9,
   by intros; exact len22,
   by intros; exact len25,
   by intros; exact len26,
   by intros; exact len27,
   by intros; exact len34,
   by intros; exact len36,
   by intros; exact len41,
   by intros; exact len45,
   by intros; exact len47,
   by intros; exact len48,
   by intros; exact len56,
   by intros; exact len71,
   by intros; exact len96,
   by intros; exact len108,
   by intros; exact len126,
   by intros; exact fa24_0,
   by intros; exact px_val fun w => fp24_0 w,
   by intros; exact fa40_0,
   by intros; exact px_val fun w => fp40_0 w,
   by intros; exact fa40_1,
   by intros; exact px_val fun w => fp40_1 w,
   by intros; exact fa50_0,
   by intros; exact px_val fun w => fp50_0 w,
   by intros; exact fa50_1,
   by intros; exact px_val fun w => fp50_1 w,
   by intros; exact fa50_2,
   by intros; exact px_val fun w => fp50_2 w,
   by intros; exact fa50_3,
   by intros; exact px_val fun w => fp50_3 w,
   by intros; exact fa50_4,
   by intros; exact px_val fun w => fp50_4 w,
   by intros; exact fa50_5,
   by intros; exact px_val fun w => fp50_5 w,
   by intros; exact fa52_0,
   by intros; exact px_val fun w => fp52_0 w,
   by intros; exact fa52_1,
   by intros; exact px_val fun w => fp52_1 w,
   by intros; exact fa53_0,
   by intros; exact px_val fun w => fp53_0 w,
   by intros; exact fa53_1,
   by intros; exact px_val fun w => fp53_1 w,
   by intros; exact fa59_0,
   by intros; exact px_val fun w => fp59_0 w,
   by intros; exact fa59_1,
   by intros; exact px_val fun w => fp59_1 w,
   by intros; exact fa59_2,
   by intros; exact px_val fun w => fp59_2 w,
   by intros; exact fa59_3,
   by intros; exact px_val fun w => fp59_3 w,
   by intros; exact fa59_4,
   by intros; exact px_val fun w => fp59_4 w,
   by intros; exact fa66_0,
   by intros; exact px_val fun w => fp66_0 w,
   by intros; exact fa66_1,
   by intros; exact px_val fun w => fp66_1 w,
   by intros; exact fa66_2,
   by intros; exact px_val fun w => fp66_2 w,
   by intros; exact fa66_3,
   by intros; exact px_val fun w => fp66_3 w,
   by intros; exact fa66_4,
   by intros; exact px_val fun w => fp66_4 w,
   by intros; exact fa66_5,
   by intros; exact px_val fun w => fp66_5 w,
   by intros; exact fa66_6,
   by intros; exact px_val fun w => fp66_6 w,
   by intros; exact fa69_0,
   by intros; exact px_val fun w => fp69_0 w,
   by intros; exact fa69_1,
   by intros; exact px_val fun w => fp69_1 w,
   by intros; exact fa69_2,
   by intros; exact px_val fun w => fp69_2 w,
   by intros; exact fa74_1,
   by intros; exact px_val fun w => fp74_1 w,
   by intros; exact fa74_4,
   by intros; exact px_val fun w => fp74_4 w,
   by intros; exact fa75_0,
   by intros; exact px_val fun w => fp75_0 w,
   by intros; exact fa75_1,
   by intros; exact px_val fun w => fp75_1 w,
   by intros; exact fa75_2,
   by intros; exact px_val fun w => fp75_2 w,
   by intros; exact fa86_0,
   by intros; exact px_val fun w => fp86_0 w,
   by intros; exact fa86_1,
   by intros; exact px_val fun w => fp86_1 w,
   by intros; exact fa92_0,
   by intros; exact px_val fun w => fp92_0 w,
   by intros; exact fa92_1,
   by intros; exact px_val fun w => fp92_1 w,
   by intros; exact fa92_2,
   by intros; exact px_val fun w => fp92_2 w,
   by intros; exact fa92_3,
   by intros; exact px_val fun w => fp92_3 w,
   by intros; exact fa92_4,
   by intros; exact px_val fun w => fp92_4 w,
   by intros; exact fa98_0,
   by intros; exact px_val fun w => fp98_0 w,
   by intros; exact fa98_1,
   by intros; exact px_val fun w => fp98_1 w,
   by intros; exact fa107_0,
   by intros; exact px_val fun w => fp107_0 w,
   by intros; exact fa107_1,
   by intros; exact px_val fun w => fp107_1 w,
   by intros; exact fa107_2,
   by intros; exact px_val fun w => fp107_2 w,
   by intros; exact fa110_0,
   by intros; exact px_val fun w => fp110_0 w,
   by intros; exact fa112_0,
   by intros; exact px_val fun w => fp112_0 w,
   by intros; exact fa112_1,
   by intros; exact px_val fun w => fp112_1 w,
   by intros; exact fa115_0,
   by intros; exact px_val fun w => fp115_0 w,
   by intros; exact fa115_1,
   by intros; exact px_val fun w => fp115_1 w,
   by intros; exact fa115_2,
   by intros; exact px_val fun w => fp115_2 w,
   by intros; exact fa162_0,
   by intros; exact px_val fun w => fp162_0 w⟩
theorem r3 {W0 : World} {l : List As} {a0 a1 a2 a3 a4 : Value} {K : Value → C} {pn : Pn} (h : Run W0 l (S3 a0 a1 a2 a3 a4 K pn)) : Run W0 l (callS P 3 #[a0, a1, a2, a3, a4] K pn) := run_call (en3 _) fun w hw => c3 (h w hw)
theorem r4 {W0 : World} {l : List As} {K : Value → C} {pn : Pn} (h : Run W0 l (S4 K pn)) : Run W0 l (callS P 4 #[] K pn) := run_call (en4 _) fun w hw => c4 (h w hw)
theorem r5 {W0 : World} {l : List As} {a0 : Value} {K : Value → C} {pn : Pn} (h : Run W0 l (S5 a0 K pn)) : Run W0 l (callS P 5 #[a0] K pn) := run_call (en5 _) fun w hw => c5 (h w hw)
theorem r6 {W0 : World} {l : List As} {a0 a1 a2 a3 : Value} {K : Value → C} {pn : Pn} (h : Run W0 l (S6 a0 a1 a2 a3 K pn)) : Run W0 l (callS P 6 #[a0, a1, a2, a3] K pn) := run_call (en6 _) fun w hw => c6 (h w hw)
theorem r7 {W0 : World} {l : List As} {a0 a1 a2 a3 : Value} {K : Value → C} {pn : Pn} (h : Run W0 l (S7 a0 a1 a2 a3 K pn)) : Run W0 l (callS P 7 #[a0, a1, a2, a3] K pn) := run_call (en7 _) fun w hw => c7 (h w hw)
theorem r8 {W0 : World} {l : List As} {a0 : Value} {K : Value → C} {pn : Pn} (h : Run W0 l (S8 a0 K pn)) : Run W0 l (callS P 8 #[a0] K pn) := run_call (en8 _) fun w hw => c8 (h w hw)
theorem r9 {W0 : World} {l : List As} {a0 a1 a2 : Value} {K : Value → C} {pn : Pn} (h : Run W0 l (S9 a0 a1 a2 K pn)) : Run W0 l (callS P 9 #[a0, a1, a2] K pn) := run_call (en9 _) fun w hw => c9 (h w hw)
theorem r10 {W0 : World} {l : List As} {a0 a1 a2 : Value} {K : Value → C} {pn : Pn} (h : Run W0 l (S10 a0 a1 a2 K pn)) : Run W0 l (callS P 10 #[a0, a1, a2] K pn) := run_call (en10 _) fun w hw => c10 (h w hw)
theorem r11 {W0 : World} {l : List As} {a0 a1 : Value} {K : Value → C} {pn : Pn} (h : Run W0 l (S11 a0 a1 K pn)) : Run W0 l (callS P 11 #[a0, a1] K pn) := run_call (en11 _) fun w hw => c11 (h w hw)
theorem r12 {W0 : World} {l : List As} {a0 : Value} {K : Value → C} {pn : Pn} (h : Run W0 l (S12 a0 K pn)) : Run W0 l (callS P 12 #[a0] K pn) := run_call (en12 _) fun w hw => c12 (h w hw)
theorem r13 {W0 : World} {l : List As} {K : Value → C} {pn : Pn} (h : Run W0 l (S13 K pn)) : Run W0 l (callS P 13 #[] K pn) := run_call (en13 _) fun w hw => c13 (h w hw)
theorem r14 {W0 : World} {l : List As} {a0 : Value} {K : Value → C} {pn : Pn} (h : Run W0 l (S14 a0 K pn)) : Run W0 l (callS P 14 #[a0] K pn) := run_call (en14 _) fun w hw => c14 (h w hw)
theorem r15 {W0 : World} {l : List As} {a0 : Value} {K : Value → C} {pn : Pn} (h : Run W0 l (S15 a0 K pn)) : Run W0 l (callS P 15 #[a0] K pn) := run_call (en15 _) fun w hw => c15 (h w hw)
theorem r16 {W0 : World} {l : List As} {a0 : Value} {K : Value → C} {pn : Pn} (h : Run W0 l (S16 a0 K pn)) : Run W0 l (callS P 16 #[a0] K pn) := run_call (en16 _) fun w hw => c16 (h w hw)
theorem r17 {W0 : World} {l : List As} {a0 : Value} {K : Value → C} {pn : Pn} (h : Run W0 l (S17 a0 K pn)) : Run W0 l (callS P 17 #[a0] K pn) := run_call (en17 _) fun w hw => c17 (h w hw)
theorem r18 {W0 : World} {l : List As} {a0 : Value} {K : Value → C} {pn : Pn} (h : Run W0 l (S18 a0 K pn)) : Run W0 l (callS P 18 #[a0] K pn) := run_call (en18 _) fun w hw => c18 (h w hw)
theorem r19 {W0 : World} {l : List As} {a0 a1 a2 : Value} {K : Value → C} {pn : Pn} (h : Run W0 l (S19 a0 a1 a2 K pn)) : Run W0 l (callS P 19 #[a0, a1, a2] K pn) := run_call (en19 _) fun w hw => c19 (h w hw)
theorem r20 {W0 : World} {l : List As} {a0 a1 a2 : Value} {K : Value → C} {pn : Pn} (h : Run W0 l (S20 a0 a1 a2 K pn)) : Run W0 l (callS P 20 #[a0, a1, a2] K pn) := run_call (en20 _) fun w hw => c20 (h w hw)
theorem r21 {W0 : World} {l : List As} {a0 a1 : Value} {K : Value → C} {pn : Pn} (h : Run W0 l (S21 a0 a1 K pn)) : Run W0 l (callS P 21 #[a0, a1] K pn) := run_call (en21 _) fun w hw => c21 (h w hw)
theorem r22 {W0 : World} {l : List As} {a0 : Value} {K : Value → C} {pn : Pn} (h : Run W0 l (S22 a0 K pn)) : Run W0 l (callS P 22 #[a0] K pn) := run_call (en22 _) fun w hw => c22 (h w hw)
theorem r23 {W0 : World} {l : List As} {a0 a1 a2 : Value} {K : Value → C} {pn : Pn} (h : Run W0 l (S23 a0 a1 a2 K pn)) : Run W0 l (callS P 23 #[a0, a1, a2] K pn) := run_call (en23 _) fun w hw => c23 (h w hw)
theorem r24 {W0 : World} {l : List As} {a0 a1 : Value} {K : Value → C} {pn : Pn} (h : Run W0 l (S24 a0 a1 K pn)) : Run W0 l (callS P 24 #[a0, a1] K pn) := run_call (en24 _) fun w hw => c24 (h w hw)
theorem r25 {W0 : World} {l : List As} {a0 a1 : Value} {K : Value → C} {pn : Pn} (h : Run W0 l (S25 a0 a1 K pn)) : Run W0 l (callS P 25 #[a0, a1] K pn) := run_call (en25 _) fun w hw => c25 (h w hw)
theorem r26 {W0 : World} {l : List As} {a0 a1 a2 : Value} {K : Value → C} {pn : Pn} (h : Run W0 l (S26 a0 a1 a2 K pn)) : Run W0 l (callS P 26 #[a0, a1, a2] K pn) := run_call (en26 _) fun w hw => c26 (h w hw)
theorem r27 {W0 : World} {l : List As} {a0 a1 : Value} {K : Value → C} {pn : Pn} (h : Run W0 l (S27 a0 a1 K pn)) : Run W0 l (callS P 27 #[a0, a1] K pn) := run_call (en27 _) fun w hw => c27 (h w hw)
theorem r28 {W0 : World} {l : List As} {a0 a1 a2 a3 : Value} {K : Value → C} {pn : Pn} (h : Run W0 l (S28 a0 a1 a2 a3 K pn)) : Run W0 l (callS P 28 #[a0, a1, a2, a3] K pn) := run_call (en28 _) fun w hw => c28 (h w hw)
theorem r29 {W0 : World} {l : List As} {a0 a1 : Value} {K : Value → C} {pn : Pn} (h : Run W0 l (S29 a0 a1 K pn)) : Run W0 l (callS P 29 #[a0, a1] K pn) := run_call (en29 _) fun w hw => c29 (h w hw)
theorem r30 {W0 : World} {l : List As} {a0 a1 : Value} {K : Value → C} {pn : Pn} (h : Run W0 l (S30 a0 a1 K pn)) : Run W0 l (callS P 30 #[a0, a1] K pn) := run_call (en30 _) fun w hw => c30 (h w hw)
theorem r31 {W0 : World} {l : List As} {a0 : Value} {K : Value → C} {pn : Pn} (h : Run W0 l (S31 a0 K pn)) : Run W0 l (callS P 31 #[a0] K pn) := run_call (en31 _) fun w hw => c31 (h w hw)
theorem r32 {W0 : World} {l : List As} {a0 a1 : Value} {K : Value → C} {pn : Pn} (h : Run W0 l (S32 a0 a1 K pn)) : Run W0 l (callS P 32 #[a0, a1] K pn) := run_call (en32 _) fun w hw => c32 (h w hw)
theorem r33 {W0 : World} {l : List As} {a0 a1 : Value} {K : Value → C} {pn : Pn} (h : Run W0 l (S33 a0 a1 K pn)) : Run W0 l (callS P 33 #[a0, a1] K pn) := run_call (en33 _) fun w hw => c33 (h w hw)
theorem r34 {W0 : World} {l : List As} {a0 : Value} {K : Value → C} {pn : Pn} (h : Run W0 l (S34 a0 K pn)) : Run W0 l (callS P 34 #[a0] K pn) := run_call (en34 _) fun w hw => c34 (h w hw)
theorem r35 {W0 : World} {l : List As} {a0 a1 : Value} {K : Value → C} {pn : Pn} (h : Run W0 l (S35 a0 a1 K pn)) : Run W0 l (callS P 35 #[a0, a1] K pn) := run_call (en35 _) fun w hw => c35 (h w hw)
theorem r36 {W0 : World} {l : List As} {a0 a1 a2 : Value} {K : Value → C} {pn : Pn} (h : Run W0 l (S36 a0 a1 a2 K pn)) : Run W0 l (callS P 36 #[a0, a1, a2] K pn) := run_call (en36 _) fun w hw => c36 (h w hw)
theorem r37 {W0 : World} {l : List As} {a0 a1 : Value} {K : Value → C} {pn : Pn} (h : Run W0 l (S37 a0 a1 K pn)) : Run W0 l (callS P 37 #[a0, a1] K pn) := run_call (en37 _) fun w hw => c37 (h w hw)
theorem r38 {W0 : World} {l : List As} {a0 a1 : Value} {K : Value → C} {pn : Pn} (h : Run W0 l (S38 a0 a1 K pn)) : Run W0 l (callS P 38 #[a0, a1] K pn) := run_call (en38 _) fun w hw => c38 (h w hw)
theorem r39 {W0 : World} {l : List As} {a0 a1 a2 : Value} {K : Value → C} {pn : Pn} (h : Run W0 l (S39 a0 a1 a2 K pn)) : Run W0 l (callS P 39 #[a0, a1, a2] K pn) := run_call (en39 _) fun w hw => c39 (h w hw)
theorem r40 {W0 : World} {l : List As} {a0 a1 a2 : Value} {K : Value → C} {pn : Pn} (h : Run W0 l (S40 a0 a1 a2 K pn)) : Run W0 l (callS P 40 #[a0, a1, a2] K pn) := run_call (en40 _) fun w hw => c40 (h w hw)
theorem r41 {W0 : World} {l : List As} {a0 a1 : Value} {K : Value → C} {pn : Pn} (h : Run W0 l (S41 a0 a1 K pn)) : Run W0 l (callS P 41 #[a0, a1] K pn) := run_call (en41 _) fun w hw => c41 (h w hw)
theorem r42 {W0 : World} {l : List As} {a0 a1 : Value} {K : Value → C} {pn : Pn} (h : Run W0 l (S42 a0 a1 K pn)) : Run W0 l (callS P 42 #[a0, a1] K pn) := run_call (en42 _) fun w hw => c42 (h w hw)
theorem r43 {W0 : World} {l : List As} {a0 a1 a2 : Value} {K : Value → C} {pn : Pn} (h : Run W0 l (S43 a0 a1 a2 K pn)) : Run W0 l (callS P 43 #[a0, a1, a2] K pn) := run_call (en43 _) fun w hw => c43 (h w hw)
theorem r44 {W0 : World} {l : List As} {a0 a1 a2 : Value} {K : Value → C} {pn : Pn} (h : Run W0 l (S44 a0 a1 a2 K pn)) : Run W0 l (callS P 44 #[a0, a1, a2] K pn) := run_call (en44 _) fun w hw => c44 (h w hw)
theorem r45 {W0 : World} {l : List As} {a0 : Value} {K : Value → C} {pn : Pn} (h : Run W0 l (S45 a0 K pn)) : Run W0 l (callS P 45 #[a0] K pn) := run_call (en45 _) fun w hw => c45 (h w hw)
theorem r46 {W0 : World} {l : List As} {a0 : Value} {K : Value → C} {pn : Pn} (h : Run W0 l (S46 a0 K pn)) : Run W0 l (callS P 46 #[a0] K pn) := run_call (en46 _) fun w hw => c46 (h w hw)
theorem r48 {W0 : World} {l : List As} {a0 : Value} {K : Value → C} {pn : Pn} (h : Run W0 l (S48 a0 K pn)) : Run W0 l (callS P 48 #[a0] K pn) := run_call (en48 _) fun w hw => c48 (h w hw)
theorem r49 {W0 : World} {l : List As} {a0 : Value} {K : Value → C} {pn : Pn} (h : Run W0 l (S49 a0 K pn)) : Run W0 l (callS P 49 #[a0] K pn) := run_call (en49 _) fun w hw => c49 (h w hw)
theorem r52 {W0 : World} {l : List As} {a0 a1 a2 : Value} {K : Value → C} {pn : Pn} (h : Run W0 l (S52 a0 a1 a2 K pn)) : Run W0 l (callS P 52 #[a0, a1, a2] K pn) := run_call (en52 _) fun w hw => c52 (h w hw)
theorem r53 {W0 : World} {l : List As} {a0 a1 a2 : Value} {K : Value → C} {pn : Pn} (h : Run W0 l (S53 a0 a1 a2 K pn)) : Run W0 l (callS P 53 #[a0, a1, a2] K pn) := run_call (en53 _) fun w hw => c53 (h w hw)
theorem r54 {W0 : World} {l : List As} {a0 : Value} {K : Value → C} {pn : Pn} (h : Run W0 l (S54 a0 K pn)) : Run W0 l (callS P 54 #[a0] K pn) := run_call (en54 _) fun w hw => c54 (h w hw)
theorem r55 {W0 : World} {l : List As} {a0 : Value} {K : Value → C} {pn : Pn} (h : Run W0 l (S55 a0 K pn)) : Run W0 l (callS P 55 #[a0] K pn) := run_call (en55 _) fun w hw => c55 (h w hw)
theorem r56 {W0 : World} {l : List As} {a0 a1 : Value} {K : Value → C} {pn : Pn} (h : Run W0 l (S56 a0 a1 K pn)) : Run W0 l (callS P 56 #[a0, a1] K pn) := run_call (en56 _) fun w hw => c56 (h w hw)
theorem r57 {W0 : World} {l : List As} {a0 a1 : Value} {K : Value → C} {pn : Pn} (h : Run W0 l (S57 a0 a1 K pn)) : Run W0 l (callS P 57 #[a0, a1] K pn) := run_call (en57 _) fun w hw => c57 (h w hw)
theorem r58 {W0 : World} {l : List As} {a0 : Value} {K : Value → C} {pn : Pn} (h : Run W0 l (S58 a0 K pn)) : Run W0 l (callS P 58 #[a0] K pn) := run_call (en58 _) fun w hw => c58 (h w hw)
theorem r61 {W0 : World} {l : List As} {a0 : Value} {K : Value → C} {pn : Pn} (h : Run W0 l (S61 a0 K pn)) : Run W0 l (callS P 61 #[a0] K pn) := run_call (en61 _) fun w hw => c61 (h w hw)
theorem r64 {W0 : World} {l : List As} {a0 a1 : Value} {K : Value → C} {pn : Pn} (h : Run W0 l (S64 a0 a1 K pn)) : Run W0 l (callS P 64 #[a0, a1] K pn) := run_call (en64 _) fun w hw => c64 (h w hw)
theorem r65 {W0 : World} {l : List As} {a0 : Value} {K : Value → C} {pn : Pn} (h : Run W0 l (S65 a0 K pn)) : Run W0 l (callS P 65 #[a0] K pn) := run_call (en65 _) fun w hw => c65 (h w hw)
theorem r66 {W0 : World} {l : List As} {a0 a1 a2 a3 : Value} {K : Value → C} {pn : Pn} (h : Run W0 l (S66 a0 a1 a2 a3 K pn)) : Run W0 l (callS P 66 #[a0, a1, a2, a3] K pn) := run_call (en66 _) fun w hw => c66 (h w hw)
theorem r67 {W0 : World} {l : List As} {a0 a1 : Value} {K : Value → C} {pn : Pn} (h : Run W0 l (S67 a0 a1 K pn)) : Run W0 l (callS P 67 #[a0, a1] K pn) := run_call (en67 _) fun w hw => c67 (h w hw)
theorem r68 {W0 : World} {l : List As} {a0 a1 a2 : Value} {K : Value → C} {pn : Pn} (h : Run W0 l (S68 a0 a1 a2 K pn)) : Run W0 l (callS P 68 #[a0, a1, a2] K pn) := run_call (en68 _) fun w hw => c68 (h w hw)
theorem r74 {W0 : World} {l : List As} {a0 a1 : Value} {K : Value → C} {pn : Pn} (h : Run W0 l (S74 a0 a1 K pn)) : Run W0 l (callS P 74 #[a0, a1] K pn) := run_call (en74 _) fun w hw => c74 (h w hw)
theorem r75 {W0 : World} {l : List As} {a0 a1 : Value} {K : Value → C} {pn : Pn} (h : Run W0 l (S75 a0 a1 K pn)) : Run W0 l (callS P 75 #[a0, a1] K pn) := run_call (en75 _) fun w hw => c75 (h w hw)
theorem r76 {W0 : World} {l : List As} {a0 a1 : Value} {K : Value → C} {pn : Pn} (h : Run W0 l (S76 a0 a1 K pn)) : Run W0 l (callS P 76 #[a0, a1] K pn) := run_call (en76 _) fun w hw => c76 (h w hw)
theorem r77 {W0 : World} {l : List As} {a0 a1 : Value} {K : Value → C} {pn : Pn} (h : Run W0 l (S77 a0 a1 K pn)) : Run W0 l (callS P 77 #[a0, a1] K pn) := run_call (en77 _) fun w hw => c77 (h w hw)
theorem r78 {W0 : World} {l : List As} {a0 a1 : Value} {K : Value → C} {pn : Pn} (h : Run W0 l (S78 a0 a1 K pn)) : Run W0 l (callS P 78 #[a0, a1] K pn) := run_call (en78 _) fun w hw => c78 (h w hw)
theorem r79 {W0 : World} {l : List As} {a0 : Value} {K : Value → C} {pn : Pn} (h : Run W0 l (S79 a0 K pn)) : Run W0 l (callS P 79 #[a0] K pn) := run_call (en79 _) fun w hw => c79 (h w hw)
theorem r80 {W0 : World} {l : List As} {a0 a1 : Value} {K : Value → C} {pn : Pn} (h : Run W0 l (S80 a0 a1 K pn)) : Run W0 l (callS P 80 #[a0, a1] K pn) := run_call (en80 _) fun w hw => c80 (h w hw)
theorem r81 {W0 : World} {l : List As} {a0 a1 : Value} {K : Value → C} {pn : Pn} (h : Run W0 l (S81 a0 a1 K pn)) : Run W0 l (callS P 81 #[a0, a1] K pn) := run_call (en81 _) fun w hw => c81 (h w hw)
theorem r82 {W0 : World} {l : List As} {a0 : Value} {K : Value → C} {pn : Pn} (h : Run W0 l (S82 a0 K pn)) : Run W0 l (callS P 82 #[a0] K pn) := run_call (en82 _) fun w hw => c82 (h w hw)
theorem r83 {W0 : World} {l : List As} {a0 a1 : Value} {K : Value → C} {pn : Pn} (h : Run W0 l (S83 a0 a1 K pn)) : Run W0 l (callS P 83 #[a0, a1] K pn) := run_call (en83 _) fun w hw => c83 (h w hw)
theorem r84 {W0 : World} {l : List As} {a0 a1 : Value} {K : Value → C} {pn : Pn} (h : Run W0 l (S84 a0 a1 K pn)) : Run W0 l (callS P 84 #[a0, a1] K pn) := run_call (en84 _) fun w hw => c84 (h w hw)
theorem r91 {W0 : World} {l : List As} {a0 a1 : Value} {K : Value → C} {pn : Pn} (h : Run W0 l (S91 a0 a1 K pn)) : Run W0 l (callS P 91 #[a0, a1] K pn) := run_call (en91 _) fun w hw => c91 (h w hw)
theorem r92 {W0 : World} {l : List As} {a0 a1 a2 a3 : Value} {K : Value → C} {pn : Pn} (h : Run W0 l (S92 a0 a1 a2 a3 K pn)) : Run W0 l (callS P 92 #[a0, a1, a2, a3] K pn) := run_call (en92 _) fun w hw => c92 (h w hw)
theorem r93 {W0 : World} {l : List As} {a0 a1 : Value} {K : Value → C} {pn : Pn} (h : Run W0 l (S93 a0 a1 K pn)) : Run W0 l (callS P 93 #[a0, a1] K pn) := run_call (en93 _) fun w hw => c93 (h w hw)
theorem r94 {W0 : World} {l : List As} {a0 a1 : Value} {K : Value → C} {pn : Pn} (h : Run W0 l (S94 a0 a1 K pn)) : Run W0 l (callS P 94 #[a0, a1] K pn) := run_call (en94 _) fun w hw => c94 (h w hw)
theorem r97 {W0 : World} {l : List As} {a0 a1 a2 a3 : Value} {K : Value → C} {pn : Pn} (h : Run W0 l (S97 a0 a1 a2 a3 K pn)) : Run W0 l (callS P 97 #[a0, a1, a2, a3] K pn) := run_call (en97 _) fun w hw => c97 (h w hw)
theorem r98 {W0 : World} {l : List As} {a0 : Value} {K : Value → C} {pn : Pn} (h : Run W0 l (S98 a0 K pn)) : Run W0 l (callS P 98 #[a0] K pn) := run_call (en98 _) fun w hw => c98 (h w hw)
theorem r99 {W0 : World} {l : List As} {a0 a1 : Value} {K : Value → C} {pn : Pn} (h : Run W0 l (S99 a0 a1 K pn)) : Run W0 l (callS P 99 #[a0, a1] K pn) := run_call (en99 _) fun w hw => c99 (h w hw)
theorem r100 {W0 : World} {l : List As} {a0 a1 a2 : Value} {K : Value → C} {pn : Pn} (h : Run W0 l (S100 a0 a1 a2 K pn)) : Run W0 l (callS P 100 #[a0, a1, a2] K pn) := run_call (en100 _) fun w hw => c100 (h w hw)
theorem r101 {W0 : World} {l : List As} {a0 : Value} {K : Value → C} {pn : Pn} (h : Run W0 l (S101 a0 K pn)) : Run W0 l (callS P 101 #[a0] K pn) := run_call (en101 _) fun w hw => c101 (h w hw)
theorem r106 {W0 : World} {l : List As} {a0 a1 a2 : Value} {K : Value → C} {pn : Pn} (h : Run W0 l (S106 a0 a1 a2 K pn)) : Run W0 l (callS P 106 #[a0, a1, a2] K pn) := run_call (en106 _) fun w hw => c106 (h w hw)
theorem r108 {W0 : World} {l : List As} {a0 : Value} {K : Value → C} {pn : Pn} (h : Run W0 l (S108 a0 K pn)) : Run W0 l (callS P 108 #[a0] K pn) := run_call (en108 _) fun w hw => c108 (h w hw)
theorem r109 {W0 : World} {l : List As} {a0 : Value} {K : Value → C} {pn : Pn} (h : Run W0 l (S109 a0 K pn)) : Run W0 l (callS P 109 #[a0] K pn) := run_call (en109 _) fun w hw => c109 (h w hw)
theorem r110 {W0 : World} {l : List As} {a0 a1 : Value} {K : Value → C} {pn : Pn} (h : Run W0 l (S110 a0 a1 K pn)) : Run W0 l (callS P 110 #[a0, a1] K pn) := run_call (en110 _) fun w hw => c110 (h w hw)
theorem r111 {W0 : World} {l : List As} {a0 a1 : Value} {K : Value → C} {pn : Pn} (h : Run W0 l (S111 a0 a1 K pn)) : Run W0 l (callS P 111 #[a0, a1] K pn) := run_call (en111 _) fun w hw => c111 (h w hw)
theorem r112 {W0 : World} {l : List As} {a0 a1 : Value} {K : Value → C} {pn : Pn} (h : Run W0 l (S112 a0 a1 K pn)) : Run W0 l (callS P 112 #[a0, a1] K pn) := run_call (en112 _) fun w hw => c112 (h w hw)
theorem r113 {W0 : World} {l : List As} {a0 a1 : Value} {K : Value → C} {pn : Pn} (h : Run W0 l (S113 a0 a1 K pn)) : Run W0 l (callS P 113 #[a0, a1] K pn) := run_call (en113 _) fun w hw => c113 (h w hw)
theorem r114 {W0 : World} {l : List As} {a0 a1 : Value} {K : Value → C} {pn : Pn} (h : Run W0 l (S114 a0 a1 K pn)) : Run W0 l (callS P 114 #[a0, a1] K pn) := run_call (en114 _) fun w hw => c114 (h w hw)
theorem r115 {W0 : World} {l : List As} {a0 a1 : Value} {K : Value → C} {pn : Pn} (h : Run W0 l (S115 a0 a1 K pn)) : Run W0 l (callS P 115 #[a0, a1] K pn) := run_call (en115 _) fun w hw => c115 (h w hw)
theorem r116 {W0 : World} {l : List As} {a0 a1 : Value} {K : Value → C} {pn : Pn} (h : Run W0 l (S116 a0 a1 K pn)) : Run W0 l (callS P 116 #[a0, a1] K pn) := run_call (en116 _) fun w hw => c116 (h w hw)
theorem r117 {W0 : World} {l : List As} {a0 a1 : Value} {K : Value → C} {pn : Pn} (h : Run W0 l (S117 a0 a1 K pn)) : Run W0 l (callS P 117 #[a0, a1] K pn) := run_call (en117 _) fun w hw => c117 (h w hw)
theorem r118 {W0 : World} {l : List As} {a0 a1 : Value} {K : Value → C} {pn : Pn} (h : Run W0 l (S118 a0 a1 K pn)) : Run W0 l (callS P 118 #[a0, a1] K pn) := run_call (en118 _) fun w hw => c118 (h w hw)
theorem r120 {W0 : World} {l : List As} {a0 : Value} {K : Value → C} {pn : Pn} (h : Run W0 l (S120 a0 K pn)) : Run W0 l (callS P 120 #[a0] K pn) := run_call (en120 _) fun w hw => c120 (h w hw)
end Go.Proofs.YtkonigmefmgepaaGreatDoor
