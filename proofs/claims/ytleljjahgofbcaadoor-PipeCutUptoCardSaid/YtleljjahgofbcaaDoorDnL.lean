/-
  The tables of this program for the abstract machine: printed by wip/dn/gen.py.
-/
import Derived.Test.YtleljjahgofbcaaDoorDnG
import Derived.Test.YtleljjahgofbcaaDoorProg
import Derived.KernelRfl
import Derived.Test.YtleljjahgofbcaaDoorDnJ
import Derived.Test.YtleljjahgofbcaaDoorDnK
import Derived.Test.YtleljjahgofbcaaDoorDnI

section
set_option maxRecDepth 100000
namespace Go.Dn.Tryd
open Go.Proofs
noncomputable section
noncomputable def ti0 : TI := (Go.Dn.TI.mk (Go.TypeDesc.tuple (Array.mk [])) 1 0 (Option.some (Go.Value.tuple (Array.mk []))) Bool.true)
noncomputable def ti1 : TI := (Go.Dn.TI.mk (Go.TypeDesc.func (Array.mk []) (Array.mk []) Bool.false) 1 8 (Option.some Go.Value.nilFunc) Bool.true)
noncomputable def ti2 : TI := (Go.Dn.TI.mk (Go.TypeDesc.int Go.IntKind.i64) 1 8 (Option.some (Go.Value.int Go.IntKind.i64 (Int.ofNat 0))) Bool.true)
noncomputable def ti3 : TI := (Go.Dn.TI.mk (Go.TypeDesc.int Go.IntKind.i64) 1 8 (Option.some (Go.Value.int Go.IntKind.i64 (Int.ofNat 0))) Bool.true)
noncomputable def ti4 : TI := (Go.Dn.TI.mk Go.TypeDesc.bool 1 1 (Option.some (Go.Value.bool Bool.false)) Bool.true)
noncomputable def ti5 : TI := (Go.Dn.TI.mk (Go.TypeDesc.int Go.IntKind.u8) 1 1 (Option.some (Go.Value.int Go.IntKind.u8 (Int.ofNat 0))) Bool.true)
noncomputable def ti6 : TI := (Go.Dn.TI.mk (Go.TypeDesc.int Go.IntKind.u8) 1 1 (Option.some (Go.Value.int Go.IntKind.u8 (Int.ofNat 0))) Bool.true)
noncomputable def ti7 : TI := (Go.Dn.TI.mk (Go.TypeDesc.struct (Array.mk [Go.Field.mk "x" 2 0 Bool.false "" "runtime" 0, Go.Field.mk "y" 3 1 Bool.false "" "runtime" 8, Go.Field.mk "signed" 4 2 Bool.false "" "runtime" 16, Go.Field.mk "code" 6 3 Bool.false "" "runtime" 17])) 4 24 (Option.some (Go.Value.agg (Array.mk [Go.Value.int Go.IntKind.i64 (Int.ofNat 0), Go.Value.int Go.IntKind.i64 (Int.ofNat 0), Go.Value.bool Bool.false, Go.Value.int Go.IntKind.u8 (Int.ofNat 0)]))) Bool.true)
noncomputable def ti8 : TI := (Go.Dn.TI.mk (Go.TypeDesc.struct (Array.mk [Go.Field.mk "x" 2 0 Bool.false "" "runtime" 0, Go.Field.mk "y" 3 1 Bool.false "" "runtime" 8, Go.Field.mk "signed" 4 2 Bool.false "" "runtime" 16, Go.Field.mk "code" 6 3 Bool.false "" "runtime" 17])) 4 24 (Option.some (Go.Value.agg (Array.mk [Go.Value.int Go.IntKind.i64 (Int.ofNat 0), Go.Value.int Go.IntKind.i64 (Int.ofNat 0), Go.Value.bool Bool.false, Go.Value.int Go.IntKind.u8 (Int.ofNat 0)]))) Bool.true)
noncomputable def ti9 : TI := (Go.Dn.TI.mk Go.TypeDesc.string 1 16 (Option.some (Go.Value.string (ByteArray.mk (Array.mk [])))) Bool.true)
noncomputable def ti10 : TI := (Go.Dn.TI.mk Go.TypeDesc.string 1 16 (Option.some (Go.Value.string (ByteArray.mk (Array.mk [])))) Bool.true)
noncomputable def ti11 : TI := (Go.Dn.TI.mk Go.TypeDesc.string 1 16 (Option.some (Go.Value.string (ByteArray.mk (Array.mk [])))) Bool.true)
noncomputable def ti12 : TI := (Go.Dn.TI.mk (Go.TypeDesc.int Go.IntKind.u64) 1 8 (Option.some (Go.Value.int Go.IntKind.u64 (Int.ofNat 0))) Bool.true)
noncomputable def ti13 : TI := (Go.Dn.TI.mk (Go.TypeDesc.struct (Array.mk [Go.Field.mk "msg" 9 0 Bool.false "" "runtime" 0, Go.Field.mk "addr" 12 1 Bool.false "" "runtime" 16])) 2 24 (Option.some (Go.Value.agg (Array.mk [Go.Value.string (ByteArray.mk (Array.mk [])), Go.Value.int Go.IntKind.u64 (Int.ofNat 0)]))) Bool.false)
noncomputable def ti14 : TI := (Go.Dn.TI.mk (Go.TypeDesc.struct (Array.mk [Go.Field.mk "msg" 9 0 Bool.false "" "runtime" 0, Go.Field.mk "addr" 12 1 Bool.false "" "runtime" 16])) 2 24 (Option.some (Go.Value.agg (Array.mk [Go.Value.string (ByteArray.mk (Array.mk [])), Go.Value.int Go.IntKind.u64 (Int.ofNat 0)]))) Bool.false)
noncomputable def ti15 : TI := (Go.Dn.TI.mk (Go.TypeDesc.pointer 171) 1 8 (Option.some (Go.Value.pointer Option.none)) Bool.true)
noncomputable def ti16 : TI := (Go.Dn.TI.mk (Go.TypeDesc.pointer 174) 1 8 (Option.some (Go.Value.pointer Option.none)) Bool.true)
noncomputable def ti17 : TI := (Go.Dn.TI.mk (Go.TypeDesc.pointer 182) 1 8 (Option.some (Go.Value.pointer Option.none)) Bool.true)
noncomputable def ti18 : TI := (Go.Dn.TI.mk (Go.TypeDesc.struct (Array.mk [Go.Field.mk "typ" 17 0 Bool.false "" "internal/runtime/maps" 0])) 1 8 (Option.some (Go.Value.agg (Array.mk [Go.Value.pointer Option.none]))) Bool.false)
noncomputable def ti19 : TI := (Go.Dn.TI.mk (Go.TypeDesc.struct (Array.mk [Go.Field.mk "typ" 17 0 Bool.false "" "internal/runtime/maps" 0])) 1 8 (Option.some (Go.Value.agg (Array.mk [Go.Value.pointer Option.none]))) Bool.false)
noncomputable def ti20 : TI := (Go.Dn.TI.mk (Go.TypeDesc.interface (Array.mk [])) 1 16 (Option.some Go.Value.nilIface) Bool.true)
noncomputable def ti21 : TI := (Go.Dn.TI.mk (Go.TypeDesc.int Go.IntKind.i32) 1 4 (Option.some (Go.Value.int Go.IntKind.i32 (Int.ofNat 0))) Bool.true)
noncomputable def ti22 : TI := (Go.Dn.TI.mk (Go.TypeDesc.slice 5) 1 24 (Option.some (Go.Value.slice Option.none 0 0)) Bool.true)
noncomputable def ti23 : TI := (Go.Dn.TI.mk (Go.TypeDesc.slice 3) 1 24 (Option.some (Go.Value.slice Option.none 0 0)) Bool.true)
noncomputable def ti24 : TI := (Go.Dn.TI.mk (Go.TypeDesc.func (Array.mk []) (Array.mk [4]) Bool.false) 1 8 (Option.some Go.Value.nilFunc) Bool.true)
noncomputable def ti25 : TI := (Go.Dn.TI.mk (Go.TypeDesc.pointer 100) 1 8 (Option.some (Go.Value.pointer Option.none)) Bool.true)
noncomputable def ti26 : TI := (Go.Dn.TI.mk (Go.TypeDesc.func (Array.mk []) (Array.mk [25]) Bool.false) 1 8 (Option.some Go.Value.nilFunc) Bool.true)
noncomputable def ti27 : TI := (Go.Dn.TI.mk (Go.TypeDesc.interface (Array.mk [("Error", 169)])) 1 16 (Option.some Go.Value.nilIface) Bool.false)
noncomputable def ti28 : TI := (Go.Dn.TI.mk (Go.TypeDesc.interface (Array.mk [("Error", 169)])) 1 16 (Option.some Go.Value.nilIface) Bool.false)
noncomputable def ti29 : TI := (Go.Dn.TI.mk (Go.TypeDesc.tuple (Array.mk [3, 28])) 1 0 (Option.some (Go.Value.tuple (Array.mk [Go.Value.int Go.IntKind.i64 (Int.ofNat 0), Go.Value.nilIface]))) Bool.true)
noncomputable def ti30 : TI := (Go.Dn.TI.mk (Go.TypeDesc.func (Array.mk [22]) (Array.mk [3, 28]) Bool.false) 1 8 (Option.some Go.Value.nilFunc) Bool.true)
noncomputable def ti31 : TI := (Go.Dn.TI.mk (Go.TypeDesc.func (Array.mk [22]) (Array.mk [22]) Bool.false) 1 8 (Option.some Go.Value.nilFunc) Bool.true)
noncomputable def ti32 : TI := (Go.Dn.TI.mk (Go.TypeDesc.func (Array.mk []) (Array.mk [3]) Bool.false) 1 8 (Option.some Go.Value.nilFunc) Bool.true)
noncomputable def ti33 : TI := (Go.Dn.TI.mk (Go.TypeDesc.func (Array.mk [3]) (Array.mk [22]) Bool.false) 1 8 (Option.some Go.Value.nilFunc) Bool.true)
noncomputable def ti34 : TI := (Go.Dn.TI.mk (Go.TypeDesc.int Go.IntKind.u64) 1 8 (Option.some (Go.Value.int Go.IntKind.u64 (Int.ofNat 0))) Bool.true)
noncomputable def ti35 : TI := (Go.Dn.TI.mk (Go.TypeDesc.func (Array.mk []) (Array.mk [34]) Bool.false) 1 8 (Option.some Go.Value.nilFunc) Bool.true)
noncomputable def ti36 : TI := (Go.Dn.TI.mk (Go.TypeDesc.func (Array.mk [22, 23, 23]) (Array.mk [4]) Bool.false) 1 8 (Option.some Go.Value.nilFunc) Bool.true)
noncomputable def ti37 : TI := (Go.Dn.TI.mk (Go.TypeDesc.slice 43) 1 24 (Option.some (Go.Value.slice Option.none 0 0)) Bool.true)
noncomputable def ti38 : TI := (Go.Dn.TI.mk (Go.TypeDesc.pointer 111) 1 8 (Option.some (Go.Value.pointer Option.none)) Bool.true)
noncomputable def ti39 : TI := (Go.Dn.TI.mk (Go.TypeDesc.func (Array.mk []) (Array.mk [38]) Bool.false) 1 8 (Option.some Go.Value.nilFunc) Bool.true)
noncomputable def ti40 : TI := (Go.Dn.TI.mk (Go.TypeDesc.int Go.IntKind.i64) 1 8 (Option.some (Go.Value.int Go.IntKind.i64 (Int.ofNat 0))) Bool.true)
noncomputable def ti41 : TI := (Go.Dn.TI.mk (Go.TypeDesc.int Go.IntKind.u32) 1 4 (Option.some (Go.Value.int Go.IntKind.u32 (Int.ofNat 0))) Bool.true)
noncomputable def ti42 : TI := (Go.Dn.TI.mk (Go.TypeDesc.struct (Array.mk [Go.Field.mk "Kind" 40 0 Bool.false "" "" 0, Go.Field.mk "Stream" 41 1 Bool.false "" "" 8, Go.Field.mk "Value" 41 2 Bool.false "" "" 12])) 3 16 (Option.some (Go.Value.agg (Array.mk [Go.Value.int Go.IntKind.i64 (Int.ofNat 0), Go.Value.int Go.IntKind.u32 (Int.ofNat 0), Go.Value.int Go.IntKind.u32 (Int.ofNat 0)]))) Bool.true)
noncomputable def ti43 : TI := (Go.Dn.TI.mk (Go.TypeDesc.struct (Array.mk [Go.Field.mk "Kind" 40 0 Bool.false "" "" 0, Go.Field.mk "Stream" 41 1 Bool.false "" "" 8, Go.Field.mk "Value" 41 2 Bool.false "" "" 12])) 3 16 (Option.some (Go.Value.agg (Array.mk [Go.Value.int Go.IntKind.i64 (Int.ofNat 0), Go.Value.int Go.IntKind.u32 (Int.ofNat 0), Go.Value.int Go.IntKind.u32 (Int.ofNat 0)]))) Bool.true)
noncomputable def ti44 : TI := (Go.Dn.TI.mk (Go.TypeDesc.func (Array.mk [43]) (Array.mk [28]) Bool.false) 1 8 (Option.some Go.Value.nilFunc) Bool.true)
noncomputable def ti45 : TI := (Go.Dn.TI.mk (Go.TypeDesc.tuple (Array.mk [43, 4])) 1 0 (Option.some (Go.Value.tuple (Array.mk [Go.Value.agg (Array.mk [Go.Value.int Go.IntKind.i64 (Int.ofNat 0), Go.Value.int Go.IntKind.u32 (Int.ofNat 0), Go.Value.int Go.IntKind.u32 (Int.ofNat 0)]), Go.Value.bool Bool.false]))) Bool.true)
noncomputable def ti46 : TI := (Go.Dn.TI.mk (Go.TypeDesc.func (Array.mk []) (Array.mk [43, 4]) Bool.false) 1 8 (Option.some Go.Value.nilFunc) Bool.true)
noncomputable def ti47 : TI := (Go.Dn.TI.mk (Go.TypeDesc.func (Array.mk [37]) (Array.mk [4]) Bool.false) 1 8 (Option.some Go.Value.nilFunc) Bool.true)
noncomputable def ti48 : TI := (Go.Dn.TI.mk (Go.TypeDesc.slice 54) 1 24 (Option.some (Go.Value.slice Option.none 0 0)) Bool.true)
noncomputable def ti49 : TI := (Go.Dn.TI.mk (Go.TypeDesc.struct (Array.mk [Go.Field.mk "All" 22 0 Bool.false "" "" 0, Go.Field.mk "Gone" 3 1 Bool.false "" "" 24, Go.Field.mk "Cut" 4 2 Bool.false "" "" 32])) 3 40 (Option.some (Go.Value.agg (Array.mk [Go.Value.slice Option.none 0 0, Go.Value.int Go.IntKind.i64 (Int.ofNat 0), Go.Value.bool Bool.false]))) Bool.true)
noncomputable def ti50 : TI := (Go.Dn.TI.mk (Go.TypeDesc.struct (Array.mk [Go.Field.mk "All" 22 0 Bool.false "" "" 0, Go.Field.mk "Gone" 3 1 Bool.false "" "" 24, Go.Field.mk "Cut" 4 2 Bool.false "" "" 32])) 3 40 (Option.some (Go.Value.agg (Array.mk [Go.Value.slice Option.none 0 0, Go.Value.int Go.IntKind.i64 (Int.ofNat 0), Go.Value.bool Bool.false]))) Bool.true)
noncomputable def ti51 : TI := (Go.Dn.TI.mk (Go.TypeDesc.tuple (Array.mk [50, 4])) 1 0 (Option.some (Go.Value.tuple (Array.mk [Go.Value.agg (Array.mk [Go.Value.slice Option.none 0 0, Go.Value.int Go.IntKind.i64 (Int.ofNat 0), Go.Value.bool Bool.false]), Go.Value.bool Bool.false]))) Bool.true)
noncomputable def ti52 : TI := (Go.Dn.TI.mk (Go.TypeDesc.func (Array.mk [25, 50, 54]) (Array.mk [50, 4]) Bool.false) 1 8 (Option.some Go.Value.nilFunc) Bool.true)
noncomputable def ti53 : TI := (Go.Dn.TI.mk (Go.TypeDesc.struct (Array.mk [Go.Field.mk "Kind" 3 0 Bool.false "" "" 0, Go.Field.mk "B" 22 1 Bool.false "" "" 8, Go.Field.mk "N" 3 2 Bool.false "" "" 32])) 3 40 (Option.some (Go.Value.agg (Array.mk [Go.Value.int Go.IntKind.i64 (Int.ofNat 0), Go.Value.slice Option.none 0 0, Go.Value.int Go.IntKind.i64 (Int.ofNat 0)]))) Bool.true)
noncomputable def ti54 : TI := (Go.Dn.TI.mk (Go.TypeDesc.struct (Array.mk [Go.Field.mk "Kind" 3 0 Bool.false "" "" 0, Go.Field.mk "B" 22 1 Bool.false "" "" 8, Go.Field.mk "N" 3 2 Bool.false "" "" 32])) 3 40 (Option.some (Go.Value.agg (Array.mk [Go.Value.int Go.IntKind.i64 (Int.ofNat 0), Go.Value.slice Option.none 0 0, Go.Value.int Go.IntKind.i64 (Int.ofNat 0)]))) Bool.true)
noncomputable def ti55 : TI := (Go.Dn.TI.mk (Go.TypeDesc.func (Array.mk [48]) (Array.mk [4]) Bool.false) 1 8 (Option.some Go.Value.nilFunc) Bool.true)
noncomputable def ti56 : TI := (Go.Dn.TI.mk (Go.TypeDesc.func (Array.mk [28]) (Array.mk [3]) Bool.false) 1 8 (Option.some Go.Value.nilFunc) Bool.true)
noncomputable def ti57 : TI := (Go.Dn.TI.mk (Go.TypeDesc.func (Array.mk [48, 48]) (Array.mk [4]) Bool.false) 1 8 (Option.some Go.Value.nilFunc) Bool.true)
noncomputable def ti58 : TI := (Go.Dn.TI.mk (Go.TypeDesc.func (Array.mk [54]) (Array.mk [4]) Bool.false) 1 8 (Option.some Go.Value.nilFunc) Bool.true)
noncomputable def ti59 : TI := (Go.Dn.TI.mk (Go.TypeDesc.slice 22) 1 24 (Option.some (Go.Value.slice Option.none 0 0)) Bool.true)
noncomputable def ti60 : TI := (Go.Dn.TI.mk (Go.TypeDesc.tuple (Array.mk [50, 3, 3])) 1 0 (Option.some (Go.Value.tuple (Array.mk [Go.Value.agg (Array.mk [Go.Value.slice Option.none 0 0, Go.Value.int Go.IntKind.i64 (Int.ofNat 0), Go.Value.bool Bool.false]), Go.Value.int Go.IntKind.i64 (Int.ofNat 0), Go.Value.int Go.IntKind.i64 (Int.ofNat 0)]))) Bool.true)
noncomputable def ti61 : TI := (Go.Dn.TI.mk (Go.TypeDesc.func (Array.mk [50, 22]) (Array.mk [50, 3, 3]) Bool.false) 1 8 (Option.some Go.Value.nilFunc) Bool.true)
noncomputable def ti62 : TI := (Go.Dn.TI.mk (Go.TypeDesc.func (Array.mk [22, 5]) (Array.mk []) Bool.false) 1 8 (Option.some Go.Value.nilFunc) Bool.true)
noncomputable def ti63 : TI := (Go.Dn.TI.mk (Go.TypeDesc.tuple (Array.mk [50, 22])) 1 0 (Option.some (Go.Value.tuple (Array.mk [Go.Value.agg (Array.mk [Go.Value.slice Option.none 0 0, Go.Value.int Go.IntKind.i64 (Int.ofNat 0), Go.Value.bool Bool.false]), Go.Value.slice Option.none 0 0]))) Bool.true)
noncomputable def ti64 : TI := (Go.Dn.TI.mk (Go.TypeDesc.func (Array.mk [50, 3]) (Array.mk [50, 22]) Bool.false) 1 8 (Option.some Go.Value.nilFunc) Bool.true)
noncomputable def ti65 : TI := (Go.Dn.TI.mk (Go.TypeDesc.func (Array.mk [59]) (Array.mk [4]) Bool.false) 1 8 (Option.some Go.Value.nilFunc) Bool.true)
noncomputable def ti66 : TI := (Go.Dn.TI.mk (Go.TypeDesc.func (Array.mk [50]) (Array.mk [22]) Bool.false) 1 8 (Option.some Go.Value.nilFunc) Bool.true)
noncomputable def ti67 : TI := (Go.Dn.TI.mk (Go.TypeDesc.slice 69) 1 24 (Option.some (Go.Value.slice Option.none 0 0)) Bool.true)
noncomputable def ti68 : TI := (Go.Dn.TI.mk (Go.TypeDesc.struct (Array.mk [Go.Field.mk "Kind" 3 0 Bool.false "" "" 0, Go.Field.mk "T" 43 1 Bool.false "" "" 8])) 4 24 (Option.some (Go.Value.agg (Array.mk [Go.Value.int Go.IntKind.i64 (Int.ofNat 0), Go.Value.int Go.IntKind.i64 (Int.ofNat 0), Go.Value.int Go.IntKind.u32 (Int.ofNat 0), Go.Value.int Go.IntKind.u32 (Int.ofNat 0)]))) Bool.true)
noncomputable def ti69 : TI := (Go.Dn.TI.mk (Go.TypeDesc.struct (Array.mk [Go.Field.mk "Kind" 3 0 Bool.false "" "" 0, Go.Field.mk "T" 43 1 Bool.false "" "" 8])) 4 24 (Option.some (Go.Value.agg (Array.mk [Go.Value.int Go.IntKind.i64 (Int.ofNat 0), Go.Value.int Go.IntKind.i64 (Int.ofNat 0), Go.Value.int Go.IntKind.u32 (Int.ofNat 0), Go.Value.int Go.IntKind.u32 (Int.ofNat 0)]))) Bool.true)
noncomputable def ti70 : TI := (Go.Dn.TI.mk (Go.TypeDesc.func (Array.mk []) (Array.mk [37]) Bool.false) 1 8 (Option.some Go.Value.nilFunc) Bool.true)
noncomputable def ti71 : TI := (Go.Dn.TI.mk (Go.TypeDesc.func (Array.mk [37, 37]) (Array.mk [4]) Bool.false) 1 8 (Option.some Go.Value.nilFunc) Bool.true)
noncomputable def ti72 : TI := (Go.Dn.TI.mk (Go.TypeDesc.func (Array.mk [40, 41]) (Array.mk [4]) Bool.false) 1 8 (Option.some Go.Value.nilFunc) Bool.true)
noncomputable def ti73 : TI := (Go.Dn.TI.mk (Go.TypeDesc.func (Array.mk [41]) (Array.mk [3]) Bool.false) 1 8 (Option.some Go.Value.nilFunc) Bool.true)
noncomputable def ti74 : TI := (Go.Dn.TI.mk (Go.TypeDesc.func (Array.mk [67]) (Array.mk [4]) Bool.false) 1 8 (Option.some Go.Value.nilFunc) Bool.true)
noncomputable def ti75 : TI := (Go.Dn.TI.mk (Go.TypeDesc.slice 88) 1 24 (Option.some (Go.Value.slice Option.none 0 0)) Bool.true)
noncomputable def ti76 : TI := (Go.Dn.TI.mk (Go.TypeDesc.pointer 131) 1 8 (Option.some (Go.Value.pointer Option.none)) Bool.true)
noncomputable def ti77 : TI := (Go.Dn.TI.mk (Go.TypeDesc.func (Array.mk []) (Array.mk [76]) Bool.false) 1 8 (Option.some Go.Value.nilFunc) Bool.true)
noncomputable def ti78 : TI := (Go.Dn.TI.mk (Go.TypeDesc.struct (Array.mk [Go.Field.mk "Frames" 59 0 Bool.false "" "" 0])) 1 24 (Option.some (Go.Value.agg (Array.mk [Go.Value.slice Option.none 0 0]))) Bool.true)
noncomputable def ti79 : TI := (Go.Dn.TI.mk (Go.TypeDesc.struct (Array.mk [Go.Field.mk "Frames" 59 0 Bool.false "" "" 0])) 1 24 (Option.some (Go.Value.agg (Array.mk [Go.Value.slice Option.none 0 0]))) Bool.true)
noncomputable def ti80 : TI := (Go.Dn.TI.mk (Go.TypeDesc.tuple (Array.mk [79, 4])) 1 0 (Option.some (Go.Value.tuple (Array.mk [Go.Value.agg (Array.mk [Go.Value.slice Option.none 0 0]), Go.Value.bool Bool.false]))) Bool.true)
noncomputable def ti81 : TI := (Go.Dn.TI.mk (Go.TypeDesc.func (Array.mk [76, 79, 88]) (Array.mk [79, 4]) Bool.false) 1 8 (Option.some Go.Value.nilFunc) Bool.true)
noncomputable def ti82 : TI := (Go.Dn.TI.mk (Go.TypeDesc.int Go.IntKind.u16) 1 2 (Option.some (Go.Value.int Go.IntKind.u16 (Int.ofNat 0))) Bool.true)
noncomputable def ti83 : TI := (Go.Dn.TI.mk (Go.TypeDesc.struct (Array.mk [Go.Field.mk "Version" 5 0 Bool.false "" "" 0, Go.Field.mk "Type" 5 1 Bool.false "" "" 1, Go.Field.mk "Flags" 82 2 Bool.false "" "" 2, Go.Field.mk "Stream" 41 3 Bool.false "" "" 4, Go.Field.mk "Length" 41 4 Bool.false "" "" 8])) 5 12 (Option.some (Go.Value.agg (Array.mk [Go.Value.int Go.IntKind.u8 (Int.ofNat 0), Go.Value.int Go.IntKind.u8 (Int.ofNat 0), Go.Value.int Go.IntKind.u16 (Int.ofNat 0), Go.Value.int Go.IntKind.u32 (Int.ofNat 0), Go.Value.int Go.IntKind.u32 (Int.ofNat 0)]))) Bool.true)
noncomputable def ti84 : TI := (Go.Dn.TI.mk (Go.TypeDesc.struct (Array.mk [Go.Field.mk "Version" 5 0 Bool.false "" "" 0, Go.Field.mk "Type" 5 1 Bool.false "" "" 1, Go.Field.mk "Flags" 82 2 Bool.false "" "" 2, Go.Field.mk "Stream" 41 3 Bool.false "" "" 4, Go.Field.mk "Length" 41 4 Bool.false "" "" 8])) 5 12 (Option.some (Go.Value.agg (Array.mk [Go.Value.int Go.IntKind.u8 (Int.ofNat 0), Go.Value.int Go.IntKind.u8 (Int.ofNat 0), Go.Value.int Go.IntKind.u16 (Int.ofNat 0), Go.Value.int Go.IntKind.u32 (Int.ofNat 0), Go.Value.int Go.IntKind.u32 (Int.ofNat 0)]))) Bool.true)
noncomputable def ti85 : TI := (Go.Dn.TI.mk (Go.TypeDesc.struct (Array.mk [Go.Field.mk "Head" 84 0 Bool.false "" "" 0, Go.Field.mk "Data" 22 5 Bool.false "" "" 16])) 6 40 (Option.some (Go.Value.agg (Array.mk [Go.Value.int Go.IntKind.u8 (Int.ofNat 0), Go.Value.int Go.IntKind.u8 (Int.ofNat 0), Go.Value.int Go.IntKind.u16 (Int.ofNat 0), Go.Value.int Go.IntKind.u32 (Int.ofNat 0), Go.Value.int Go.IntKind.u32 (Int.ofNat 0), Go.Value.slice Option.none 0 0]))) Bool.true)
noncomputable def ti86 : TI := (Go.Dn.TI.mk (Go.TypeDesc.struct (Array.mk [Go.Field.mk "Head" 84 0 Bool.false "" "" 0, Go.Field.mk "Data" 22 5 Bool.false "" "" 16])) 6 40 (Option.some (Go.Value.agg (Array.mk [Go.Value.int Go.IntKind.u8 (Int.ofNat 0), Go.Value.int Go.IntKind.u8 (Int.ofNat 0), Go.Value.int Go.IntKind.u16 (Int.ofNat 0), Go.Value.int Go.IntKind.u32 (Int.ofNat 0), Go.Value.int Go.IntKind.u32 (Int.ofNat 0), Go.Value.slice Option.none 0 0]))) Bool.true)
noncomputable def ti87 : TI := (Go.Dn.TI.mk (Go.TypeDesc.struct (Array.mk [Go.Field.mk "Kind" 3 0 Bool.false "" "" 0, Go.Field.mk "Frame" 86 1 Bool.false "" "" 8, Go.Field.mk "N" 3 7 Bool.false "" "" 48])) 8 56 (Option.some (Go.Value.agg (Array.mk [Go.Value.int Go.IntKind.i64 (Int.ofNat 0), Go.Value.int Go.IntKind.u8 (Int.ofNat 0), Go.Value.int Go.IntKind.u8 (Int.ofNat 0), Go.Value.int Go.IntKind.u16 (Int.ofNat 0), Go.Value.int Go.IntKind.u32 (Int.ofNat 0), Go.Value.int Go.IntKind.u32 (Int.ofNat 0), Go.Value.slice Option.none 0 0, Go.Value.int Go.IntKind.i64 (Int.ofNat 0)]))) Bool.true)
noncomputable def ti88 : TI := (Go.Dn.TI.mk (Go.TypeDesc.struct (Array.mk [Go.Field.mk "Kind" 3 0 Bool.false "" "" 0, Go.Field.mk "Frame" 86 1 Bool.false "" "" 8, Go.Field.mk "N" 3 7 Bool.false "" "" 48])) 8 56 (Option.some (Go.Value.agg (Array.mk [Go.Value.int Go.IntKind.i64 (Int.ofNat 0), Go.Value.int Go.IntKind.u8 (Int.ofNat 0), Go.Value.int Go.IntKind.u8 (Int.ofNat 0), Go.Value.int Go.IntKind.u16 (Int.ofNat 0), Go.Value.int Go.IntKind.u32 (Int.ofNat 0), Go.Value.int Go.IntKind.u32 (Int.ofNat 0), Go.Value.slice Option.none 0 0, Go.Value.int Go.IntKind.i64 (Int.ofNat 0)]))) Bool.true)
noncomputable def ti89 : TI := (Go.Dn.TI.mk (Go.TypeDesc.func (Array.mk [75]) (Array.mk [4]) Bool.false) 1 8 (Option.some Go.Value.nilFunc) Bool.true)
noncomputable def ti90 : TI := (Go.Dn.TI.mk (Go.TypeDesc.slice 86) 1 24 (Option.some (Go.Value.slice Option.none 0 0)) Bool.true)
noncomputable def ti91 : TI := (Go.Dn.TI.mk (Go.TypeDesc.tuple (Array.mk [22, 28])) 1 0 (Option.some (Go.Value.tuple (Array.mk [Go.Value.slice Option.none 0 0, Go.Value.nilIface]))) Bool.true)
noncomputable def ti92 : TI := (Go.Dn.TI.mk (Go.TypeDesc.func (Array.mk [86]) (Array.mk [22, 28]) Bool.false) 1 8 (Option.some Go.Value.nilFunc) Bool.true)
noncomputable def ti93 : TI := (Go.Dn.TI.mk (Go.TypeDesc.func (Array.mk [86]) (Array.mk [86]) Bool.false) 1 8 (Option.some Go.Value.nilFunc) Bool.true)
noncomputable def ti94 : TI := (Go.Dn.TI.mk (Go.TypeDesc.func (Array.mk [86]) (Array.mk [28]) Bool.false) 1 8 (Option.some Go.Value.nilFunc) Bool.true)
noncomputable def ti95 : TI := (Go.Dn.TI.mk (Go.TypeDesc.func (Array.mk [90, 23]) (Array.mk [4]) Bool.false) 1 8 (Option.some Go.Value.nilFunc) Bool.true)
noncomputable def ti96 : TI := (Go.Dn.TI.mk (Go.TypeDesc.pointer 141) 1 8 (Option.some (Go.Value.pointer Option.none)) Bool.true)
noncomputable def ti97 : TI := (Go.Dn.TI.mk (Go.TypeDesc.tuple (Array.mk [96, 28])) 1 0 (Option.some (Go.Value.tuple (Array.mk [Go.Value.pointer Option.none, Go.Value.nilIface]))) Bool.true)
noncomputable def ti98 : TI := (Go.Dn.TI.mk (Go.TypeDesc.func (Array.mk [3, 3]) (Array.mk [96, 28]) Bool.false) 1 8 (Option.some Go.Value.nilFunc) Bool.true)
noncomputable def ti99 : TI := (Go.Dn.TI.mk (Go.TypeDesc.struct (Array.mk [Go.Field.mk "pieces" 96 0 Bool.false "" "culvert/pipe" 0, Go.Field.mk "gone" 3 1 Bool.false "" "culvert/pipe" 8, Go.Field.mk "passed" 34 2 Bool.false "" "culvert/pipe" 16, Go.Field.mk "cut" 4 3 Bool.false "" "culvert/pipe" 24])) 4 32 (Option.some (Go.Value.agg (Array.mk [Go.Value.pointer Option.none, Go.Value.int Go.IntKind.i64 (Int.ofNat 0), Go.Value.int Go.IntKind.u64 (Int.ofNat 0), Go.Value.bool Bool.false]))) Bool.true)
noncomputable def ti100 : TI := (Go.Dn.TI.mk (Go.TypeDesc.struct (Array.mk [Go.Field.mk "pieces" 96 0 Bool.false "" "culvert/pipe" 0, Go.Field.mk "gone" 3 1 Bool.false "" "culvert/pipe" 8, Go.Field.mk "passed" 34 2 Bool.false "" "culvert/pipe" 16, Go.Field.mk "cut" 4 3 Bool.false "" "culvert/pipe" 24])) 4 32 (Option.some (Go.Value.agg (Array.mk [Go.Value.pointer Option.none, Go.Value.int Go.IntKind.i64 (Int.ofNat 0), Go.Value.int Go.IntKind.u64 (Int.ofNat 0), Go.Value.bool Bool.false]))) Bool.true)
noncomputable def ti101 : TI := (Go.Dn.TI.mk (Go.TypeDesc.func (Array.mk [22, 3]) (Array.mk [28]) Bool.false) 1 8 (Option.some Go.Value.nilFunc) Bool.true)
noncomputable def ti102 : TI := (Go.Dn.TI.mk (Go.TypeDesc.func (Array.mk [59]) (Array.mk [22]) Bool.true) 1 8 (Option.some Go.Value.nilFunc) Bool.true)
noncomputable def ti103 : TI := (Go.Dn.TI.mk (Go.TypeDesc.tuple (Array.mk [22, 3, 4])) 1 0 (Option.some (Go.Value.tuple (Array.mk [Go.Value.slice Option.none 0 0, Go.Value.int Go.IntKind.i64 (Int.ofNat 0), Go.Value.bool Bool.false]))) Bool.true)
noncomputable def ti104 : TI := (Go.Dn.TI.mk (Go.TypeDesc.func (Array.mk []) (Array.mk [22, 3, 4]) Bool.false) 1 8 (Option.some Go.Value.nilFunc) Bool.true)
noncomputable def ti105 : TI := (Go.Dn.TI.mk (Go.TypeDesc.tuple (Array.mk [86, 28])) 1 0 (Option.some (Go.Value.tuple (Array.mk [Go.Value.agg (Array.mk [Go.Value.int Go.IntKind.u8 (Int.ofNat 0), Go.Value.int Go.IntKind.u8 (Int.ofNat 0), Go.Value.int Go.IntKind.u16 (Int.ofNat 0), Go.Value.int Go.IntKind.u32 (Int.ofNat 0), Go.Value.int Go.IntKind.u32 (Int.ofNat 0), Go.Value.slice Option.none 0 0]), Go.Value.nilIface]))) Bool.true)
noncomputable def ti106 : TI := (Go.Dn.TI.mk (Go.TypeDesc.func (Array.mk [43]) (Array.mk [86, 28]) Bool.false) 1 8 (Option.some Go.Value.nilFunc) Bool.true)
noncomputable def ti107 : TI := (Go.Dn.TI.mk (Go.TypeDesc.map 113 114) 1 8 (Option.some (Go.Value.map Option.none)) Bool.true)
noncomputable def ti108 : TI := (Go.Dn.TI.mk (Go.TypeDesc.slice 114) 1 24 (Option.some (Go.Value.slice Option.none 0 0)) Bool.true)
noncomputable def ti109 : TI := (Go.Dn.TI.mk (Go.TypeDesc.array 8 3) 8 64 (Option.some (Go.Value.agg (Array.mk [Go.Value.int Go.IntKind.i64 (Int.ofNat 0), Go.Value.int Go.IntKind.i64 (Int.ofNat 0), Go.Value.int Go.IntKind.i64 (Int.ofNat 0), Go.Value.int Go.IntKind.i64 (Int.ofNat 0), Go.Value.int Go.IntKind.i64 (Int.ofNat 0), Go.Value.int Go.IntKind.i64 (Int.ofNat 0), Go.Value.int Go.IntKind.i64 (Int.ofNat 0), Go.Value.int Go.IntKind.i64 (Int.ofNat 0)]))) Bool.true)
noncomputable def ti110 : TI := (Go.Dn.TI.mk (Go.TypeDesc.struct (Array.mk [Go.Field.mk "list" 108 0 Bool.false "" "culvert/lane" 0, Go.Field.mk "found" 107 1 Bool.false "" "culvert/lane" 24, Go.Field.mk "counts" 109 2 Bool.false "" "culvert/lane" 32, Go.Field.mk "n" 3 10 Bool.false "" "culvert/lane" 96])) 11 104 (Option.some (Go.Value.agg (Array.mk [Go.Value.slice Option.none 0 0, Go.Value.map Option.none, Go.Value.int Go.IntKind.i64 (Int.ofNat 0), Go.Value.int Go.IntKind.i64 (Int.ofNat 0), Go.Value.int Go.IntKind.i64 (Int.ofNat 0), Go.Value.int Go.IntKind.i64 (Int.ofNat 0), Go.Value.int Go.IntKind.i64 (Int.ofNat 0), Go.Value.int Go.IntKind.i64 (Int.ofNat 0), Go.Value.int Go.IntKind.i64 (Int.ofNat 0), Go.Value.int Go.IntKind.i64 (Int.ofNat 0), Go.Value.int Go.IntKind.i64 (Int.ofNat 0)]))) Bool.true)
noncomputable def ti111 : TI := (Go.Dn.TI.mk (Go.TypeDesc.struct (Array.mk [Go.Field.mk "list" 108 0 Bool.false "" "culvert/lane" 0, Go.Field.mk "found" 107 1 Bool.false "" "culvert/lane" 24, Go.Field.mk "counts" 109 2 Bool.false "" "culvert/lane" 32, Go.Field.mk "n" 3 10 Bool.false "" "culvert/lane" 96])) 11 104 (Option.some (Go.Value.agg (Array.mk [Go.Value.slice Option.none 0 0, Go.Value.map Option.none, Go.Value.int Go.IntKind.i64 (Int.ofNat 0), Go.Value.int Go.IntKind.i64 (Int.ofNat 0), Go.Value.int Go.IntKind.i64 (Int.ofNat 0), Go.Value.int Go.IntKind.i64 (Int.ofNat 0), Go.Value.int Go.IntKind.i64 (Int.ofNat 0), Go.Value.int Go.IntKind.i64 (Int.ofNat 0), Go.Value.int Go.IntKind.i64 (Int.ofNat 0), Go.Value.int Go.IntKind.i64 (Int.ofNat 0), Go.Value.int Go.IntKind.i64 (Int.ofNat 0)]))) Bool.true)
noncomputable def ti112 : TI := (Go.Dn.TI.mk (Go.TypeDesc.struct (Array.mk [Go.Field.mk "kind" 40 0 Bool.false "" "culvert/lane" 0, Go.Field.mk "stream" 41 1 Bool.false "" "culvert/lane" 8])) 2 16 (Option.some (Go.Value.agg (Array.mk [Go.Value.int Go.IntKind.i64 (Int.ofNat 0), Go.Value.int Go.IntKind.u32 (Int.ofNat 0)]))) Bool.true)
noncomputable def ti113 : TI := (Go.Dn.TI.mk (Go.TypeDesc.struct (Array.mk [Go.Field.mk "kind" 40 0 Bool.false "" "culvert/lane" 0, Go.Field.mk "stream" 41 1 Bool.false "" "culvert/lane" 8])) 2 16 (Option.some (Go.Value.agg (Array.mk [Go.Value.int Go.IntKind.i64 (Int.ofNat 0), Go.Value.int Go.IntKind.u32 (Int.ofNat 0)]))) Bool.true)
noncomputable def ti114 : TI := (Go.Dn.TI.mk (Go.TypeDesc.pointer 119) 1 8 (Option.some (Go.Value.pointer Option.none)) Bool.true)
noncomputable def ti115 : TI := (Go.Dn.TI.mk (Go.TypeDesc.struct (Array.mk [Go.Field.mk "stream" 3 0 Bool.false "" "culvert/lane" 0, Go.Field.mk "value" 3 1 Bool.false "" "culvert/lane" 8, Go.Field.mk "once" 4 2 Bool.false "" "culvert/lane" 16, Go.Field.mk "typ" 5 3 Bool.false "" "culvert/lane" 17, Go.Field.mk "flags" 82 4 Bool.false "" "culvert/lane" 18])) 5 24 (Option.some (Go.Value.agg (Array.mk [Go.Value.int Go.IntKind.i64 (Int.ofNat 0), Go.Value.int Go.IntKind.i64 (Int.ofNat 0), Go.Value.bool Bool.false, Go.Value.int Go.IntKind.u8 (Int.ofNat 0), Go.Value.int Go.IntKind.u16 (Int.ofNat 0)]))) Bool.true)
noncomputable def ti116 : TI := (Go.Dn.TI.mk (Go.TypeDesc.struct (Array.mk [Go.Field.mk "stream" 3 0 Bool.false "" "culvert/lane" 0, Go.Field.mk "value" 3 1 Bool.false "" "culvert/lane" 8, Go.Field.mk "once" 4 2 Bool.false "" "culvert/lane" 16, Go.Field.mk "typ" 5 3 Bool.false "" "culvert/lane" 17, Go.Field.mk "flags" 82 4 Bool.false "" "culvert/lane" 18])) 5 24 (Option.some (Go.Value.agg (Array.mk [Go.Value.int Go.IntKind.i64 (Int.ofNat 0), Go.Value.int Go.IntKind.i64 (Int.ofNat 0), Go.Value.bool Bool.false, Go.Value.int Go.IntKind.u8 (Int.ofNat 0), Go.Value.int Go.IntKind.u16 (Int.ofNat 0)]))) Bool.true)
noncomputable def ti117 : TI := (Go.Dn.TI.mk (Go.TypeDesc.array 8 116) 40 192 (Option.some (Go.Value.agg (Array.mk [Go.Value.int Go.IntKind.i64 (Int.ofNat 0), Go.Value.int Go.IntKind.i64 (Int.ofNat 0), Go.Value.bool Bool.false, Go.Value.int Go.IntKind.u8 (Int.ofNat 0), Go.Value.int Go.IntKind.u16 (Int.ofNat 0), Go.Value.int Go.IntKind.i64 (Int.ofNat 0), Go.Value.int Go.IntKind.i64 (Int.ofNat 0), Go.Value.bool Bool.false, Go.Value.int Go.IntKind.u8 (Int.ofNat 0), Go.Value.int Go.IntKind.u16 (Int.ofNat 0), Go.Value.int Go.IntKind.i64 (Int.ofNat 0), Go.Value.int Go.IntKind.i64 (Int.ofNat 0), Go.Value.bool Bool.false, Go.Value.int Go.IntKind.u8 (Int.ofNat 0), Go.Value.int Go.IntKind.u16 (Int.ofNat 0), Go.Value.int Go.IntKind.i64 (Int.ofNat 0), Go.Value.int Go.IntKind.i64 (Int.ofNat 0), Go.Value.bool Bool.false, Go.Value.int Go.IntKind.u8 (Int.ofNat 0), Go.Value.int Go.IntKind.u16 (Int.ofNat 0), Go.Value.int Go.IntKind.i64 (Int.ofNat 0), Go.Value.int Go.IntKind.i64 (Int.ofNat 0), Go.Value.bool Bool.false, Go.Value.int Go.IntKind.u8 (Int.ofNat 0), Go.Value.int Go.IntKind.u16 (Int.ofNat 0), Go.Value.int Go.IntKind.i64 (Int.ofNat 0), Go.Value.int Go.IntKind.i64 (Int.ofNat 0), Go.Value.bool Bool.false, Go.Value.int Go.IntKind.u8 (Int.ofNat 0), Go.Value.int Go.IntKind.u16 (Int.ofNat 0), Go.Value.int Go.IntKind.i64 (Int.ofNat 0), Go.Value.int Go.IntKind.i64 (Int.ofNat 0), Go.Value.bool Bool.false, Go.Value.int Go.IntKind.u8 (Int.ofNat 0), Go.Value.int Go.IntKind.u16 (Int.ofNat 0), Go.Value.int Go.IntKind.i64 (Int.ofNat 0), Go.Value.int Go.IntKind.i64 (Int.ofNat 0), Go.Value.bool Bool.false, Go.Value.int Go.IntKind.u8 (Int.ofNat 0), Go.Value.int Go.IntKind.u16 (Int.ofNat 0)]))) Bool.true)
noncomputable def ti118 : TI := (Go.Dn.TI.mk (Go.TypeDesc.struct (Array.mk [Go.Field.mk "Ticket" 43 0 Bool.true "" "" 0, Go.Field.mk "gone" 4 3 Bool.false "" "culvert/lane" 16])) 4 24 (Option.some (Go.Value.agg (Array.mk [Go.Value.int Go.IntKind.i64 (Int.ofNat 0), Go.Value.int Go.IntKind.u32 (Int.ofNat 0), Go.Value.int Go.IntKind.u32 (Int.ofNat 0), Go.Value.bool Bool.false]))) Bool.true)
noncomputable def ti119 : TI := (Go.Dn.TI.mk (Go.TypeDesc.struct (Array.mk [Go.Field.mk "Ticket" 43 0 Bool.true "" "" 0, Go.Field.mk "gone" 4 3 Bool.false "" "culvert/lane" 16])) 4 24 (Option.some (Go.Value.agg (Array.mk [Go.Value.int Go.IntKind.i64 (Int.ofNat 0), Go.Value.int Go.IntKind.u32 (Int.ofNat 0), Go.Value.int Go.IntKind.u32 (Int.ofNat 0), Go.Value.bool Bool.false]))) Bool.true)
noncomputable def ti120 : TI := (Go.Dn.TI.mk (Go.TypeDesc.func (Array.mk [114]) (Array.mk []) Bool.false) 1 8 (Option.some Go.Value.nilFunc) Bool.true)
noncomputable def ti121 : TI := (Go.Dn.TI.mk (Go.TypeDesc.func (Array.mk [50]) (Array.mk [3]) Bool.false) 1 8 (Option.some Go.Value.nilFunc) Bool.true)
noncomputable def ti122 : TI := (Go.Dn.TI.mk (Go.TypeDesc.tuple (Array.mk [50, 3])) 1 0 (Option.some (Go.Value.tuple (Array.mk [Go.Value.agg (Array.mk [Go.Value.slice Option.none 0 0, Go.Value.int Go.IntKind.i64 (Int.ofNat 0), Go.Value.bool Bool.false]), Go.Value.int Go.IntKind.i64 (Int.ofNat 0)]))) Bool.true)
noncomputable def ti123 : TI := (Go.Dn.TI.mk (Go.TypeDesc.func (Array.mk [50]) (Array.mk [50, 3]) Bool.false) 1 8 (Option.some Go.Value.nilFunc) Bool.true)
noncomputable def ti124 : TI := (Go.Dn.TI.mk (Go.TypeDesc.func (Array.mk [125]) (Array.mk [3]) Bool.false) 1 8 (Option.some Go.Value.nilFunc) Bool.true)
noncomputable def ti125 : TI := (Go.Dn.TI.mk (Go.TypeDesc.func (Array.mk [22]) (Array.mk [4]) Bool.false) 1 8 (Option.some Go.Value.nilFunc) Bool.true)
noncomputable def ti126 : TI := (Go.Dn.TI.mk (Go.TypeDesc.func (Array.mk [28, 28]) (Array.mk [4]) Bool.false) 1 8 (Option.some Go.Value.nilFunc) Bool.true)
noncomputable def ti127 : TI := (Go.Dn.TI.mk (Go.TypeDesc.func (Array.mk [3]) (Array.mk [28]) Bool.false) 1 8 (Option.some Go.Value.nilFunc) Bool.true)
noncomputable def ti128 : TI := (Go.Dn.TI.mk (Go.TypeDesc.struct (Array.mk [Go.Field.mk "Fifo" 96 0 Bool.true "" "" 0])) 1 8 (Option.some (Go.Value.agg (Array.mk [Go.Value.pointer Option.none]))) Bool.true)
noncomputable def ti129 : TI := (Go.Dn.TI.mk (Go.TypeDesc.struct (Array.mk [Go.Field.mk "Fifo" 96 0 Bool.true "" "" 0])) 1 8 (Option.some (Go.Value.agg (Array.mk [Go.Value.pointer Option.none]))) Bool.true)
noncomputable def ti130 : TI := (Go.Dn.TI.mk (Go.TypeDesc.struct (Array.mk [Go.Field.mk "waiting" 129 0 Bool.false "" "culvert/out" 0, Go.Field.mk "gone" 3 1 Bool.false "" "culvert/out" 8])) 2 16 (Option.some (Go.Value.agg (Array.mk [Go.Value.pointer Option.none, Go.Value.int Go.IntKind.i64 (Int.ofNat 0)]))) Bool.true)
noncomputable def ti131 : TI := (Go.Dn.TI.mk (Go.TypeDesc.struct (Array.mk [Go.Field.mk "waiting" 129 0 Bool.false "" "culvert/out" 0, Go.Field.mk "gone" 3 1 Bool.false "" "culvert/out" 8])) 2 16 (Option.some (Go.Value.agg (Array.mk [Go.Value.pointer Option.none, Go.Value.int Go.IntKind.i64 (Int.ofNat 0)]))) Bool.true)
noncomputable def ti132 : TI := (Go.Dn.TI.mk (Go.TypeDesc.tuple (Array.mk [79, 3])) 1 0 (Option.some (Go.Value.tuple (Array.mk [Go.Value.agg (Array.mk [Go.Value.slice Option.none 0 0]), Go.Value.int Go.IntKind.i64 (Int.ofNat 0)]))) Bool.true)
noncomputable def ti133 : TI := (Go.Dn.TI.mk (Go.TypeDesc.func (Array.mk [79, 86]) (Array.mk [79, 3]) Bool.false) 1 8 (Option.some Go.Value.nilFunc) Bool.true)
noncomputable def ti134 : TI := (Go.Dn.TI.mk (Go.TypeDesc.tuple (Array.mk [79, 22])) 1 0 (Option.some (Go.Value.tuple (Array.mk [Go.Value.agg (Array.mk [Go.Value.slice Option.none 0 0]), Go.Value.slice Option.none 0 0]))) Bool.true)
noncomputable def ti135 : TI := (Go.Dn.TI.mk (Go.TypeDesc.func (Array.mk [79, 3]) (Array.mk [79, 22]) Bool.false) 1 8 (Option.some Go.Value.nilFunc) Bool.true)
noncomputable def ti136 : TI := (Go.Dn.TI.mk (Go.TypeDesc.func (Array.mk [79]) (Array.mk [3]) Bool.false) 1 8 (Option.some Go.Value.nilFunc) Bool.true)
noncomputable def ti137 : TI := (Go.Dn.TI.mk (Go.TypeDesc.func (Array.mk [84]) (Array.mk [3]) Bool.false) 1 8 (Option.some Go.Value.nilFunc) Bool.true)
noncomputable def ti138 : TI := (Go.Dn.TI.mk (Go.TypeDesc.func (Array.mk [84]) (Array.mk [22]) Bool.false) 1 8 (Option.some Go.Value.nilFunc) Bool.true)
noncomputable def ti139 : TI := (Go.Dn.TI.mk (Go.TypeDesc.slice 143) 1 24 (Option.some (Go.Value.slice Option.none 0 0)) Bool.true)
noncomputable def ti140 : TI := (Go.Dn.TI.mk (Go.TypeDesc.struct (Array.mk [Go.Field.mk "things" 3 0 Bool.false "" "culvert/fifo" 0, Go.Field.mk "most" 3 1 Bool.false "" "culvert/fifo" 8, Go.Field.mk "rows" 139 2 Bool.false "" "culvert/fifo" 16, Go.Field.mk "weight" 3 3 Bool.false "" "culvert/fifo" 40])) 4 48 (Option.some (Go.Value.agg (Array.mk [Go.Value.int Go.IntKind.i64 (Int.ofNat 0), Go.Value.int Go.IntKind.i64 (Int.ofNat 0), Go.Value.slice Option.none 0 0, Go.Value.int Go.IntKind.i64 (Int.ofNat 0)]))) Bool.true)
noncomputable def ti141 : TI := (Go.Dn.TI.mk (Go.TypeDesc.struct (Array.mk [Go.Field.mk "things" 3 0 Bool.false "" "culvert/fifo" 0, Go.Field.mk "most" 3 1 Bool.false "" "culvert/fifo" 8, Go.Field.mk "rows" 139 2 Bool.false "" "culvert/fifo" 16, Go.Field.mk "weight" 3 3 Bool.false "" "culvert/fifo" 40])) 4 48 (Option.some (Go.Value.agg (Array.mk [Go.Value.int Go.IntKind.i64 (Int.ofNat 0), Go.Value.int Go.IntKind.i64 (Int.ofNat 0), Go.Value.slice Option.none 0 0, Go.Value.int Go.IntKind.i64 (Int.ofNat 0)]))) Bool.true)
noncomputable def ti142 : TI := (Go.Dn.TI.mk (Go.TypeDesc.struct (Array.mk [Go.Field.mk "thing" 22 0 Bool.false "" "culvert/fifo" 0, Go.Field.mk "weight" 3 1 Bool.false "" "culvert/fifo" 24])) 2 32 (Option.some (Go.Value.agg (Array.mk [Go.Value.slice Option.none 0 0, Go.Value.int Go.IntKind.i64 (Int.ofNat 0)]))) Bool.true)
noncomputable def ti143 : TI := (Go.Dn.TI.mk (Go.TypeDesc.struct (Array.mk [Go.Field.mk "thing" 22 0 Bool.false "" "culvert/fifo" 0, Go.Field.mk "weight" 3 1 Bool.false "" "culvert/fifo" 24])) 2 32 (Option.some (Go.Value.agg (Array.mk [Go.Value.slice Option.none 0 0, Go.Value.int Go.IntKind.i64 (Int.ofNat 0)]))) Bool.true)
noncomputable def ti144 : TI := (Go.Dn.TI.mk (Go.TypeDesc.func (Array.mk [3, 41]) (Array.mk [4]) Bool.false) 1 8 (Option.some Go.Value.nilFunc) Bool.true)
noncomputable def ti145 : TI := (Go.Dn.TI.mk (Go.TypeDesc.interface (Array.mk [("AssignableTo", 183), ("Comparable", 24), ("Elem", 184), ("Implements", 183), ("Kind", 185), ("Name", 169), ("PkgPath", 169), ("Size", 186), ("String", 169), ("internal/reflectlite.common", 187), ("internal/reflectlite.uncommon", 188)])) 1 16 (Option.some Go.Value.nilIface) Bool.false)
noncomputable def ti146 : TI := (Go.Dn.TI.mk (Go.TypeDesc.interface (Array.mk [("AssignableTo", 183), ("Comparable", 24), ("Elem", 184), ("Implements", 183), ("Kind", 185), ("Name", 169), ("PkgPath", 169), ("Size", 186), ("String", 169), ("internal/reflectlite.common", 187), ("internal/reflectlite.uncommon", 188)])) 1 16 (Option.some Go.Value.nilIface) Bool.false)
noncomputable def ti147 : TI := (Go.Dn.TI.mk (Go.TypeDesc.func (Array.mk [20]) (Array.mk [146]) Bool.false) 1 8 (Option.some Go.Value.nilFunc) Bool.true)
noncomputable def ti148 : TI := (Go.Dn.TI.mk (Go.TypeDesc.func (Array.mk [28, 28, 4]) (Array.mk [4]) Bool.false) 1 8 (Option.some Go.Value.nilFunc) Bool.true)
noncomputable def ti149 : TI := (Go.Dn.TI.mk (Go.TypeDesc.tuple (Array.mk [22, 3])) 1 0 (Option.some (Go.Value.tuple (Array.mk [Go.Value.slice Option.none 0 0, Go.Value.int Go.IntKind.i64 (Int.ofNat 0)]))) Bool.true)
noncomputable def ti150 : TI := (Go.Dn.TI.mk (Go.TypeDesc.func (Array.mk [86]) (Array.mk [22, 3]) Bool.false) 1 8 (Option.some Go.Value.nilFunc) Bool.true)
noncomputable def ti151 : TI := (Go.Dn.TI.mk (Go.TypeDesc.func (Array.mk [82]) (Array.mk [22]) Bool.false) 1 8 (Option.some Go.Value.nilFunc) Bool.true)
noncomputable def ti152 : TI := (Go.Dn.TI.mk (Go.TypeDesc.func (Array.mk [41]) (Array.mk [22]) Bool.false) 1 8 (Option.some Go.Value.nilFunc) Bool.true)
noncomputable def ti153 : TI := (Go.Dn.TI.mk (Go.TypeDesc.struct (Array.mk [Go.Field.mk "Type" 17 0 Bool.true "" "" 0])) 1 8 (Option.some (Go.Value.agg (Array.mk [Go.Value.pointer Option.none]))) Bool.false)
noncomputable def ti154 : TI := (Go.Dn.TI.mk (Go.TypeDesc.struct (Array.mk [Go.Field.mk "Type" 17 0 Bool.true "" "" 0])) 1 8 (Option.some (Go.Value.agg (Array.mk [Go.Value.pointer Option.none]))) Bool.false)
noncomputable def ti155 : TI := (Go.Dn.TI.mk (Go.TypeDesc.pointer 190) 1 8 (Option.some (Go.Value.pointer Option.none)) Bool.true)
noncomputable def ti156 : TI := (Go.Dn.TI.mk (Go.TypeDesc.interface (Array.mk [("Is", 158)])) 1 16 (Option.some Go.Value.nilIface) Bool.false)
noncomputable def ti157 : TI := (Go.Dn.TI.mk (Go.TypeDesc.tuple (Array.mk [156, 4])) 1 0 (Option.some (Go.Value.tuple (Array.mk [Go.Value.nilIface, Go.Value.bool Bool.false]))) Bool.true)
noncomputable def ti158 : TI := (Go.Dn.TI.mk (Go.TypeDesc.func (Array.mk [28]) (Array.mk [4]) Bool.false) 1 8 (Option.some Go.Value.nilFunc) Bool.true)
noncomputable def ti159 : TI := (Go.Dn.TI.mk (Go.TypeDesc.interface (Array.mk [("Unwrap", 160)])) 1 16 (Option.some Go.Value.nilIface) Bool.false)
noncomputable def ti160 : TI := (Go.Dn.TI.mk (Go.TypeDesc.func (Array.mk []) (Array.mk [28]) Bool.false) 1 8 (Option.some Go.Value.nilFunc) Bool.true)
noncomputable def ti161 : TI := (Go.Dn.TI.mk (Go.TypeDesc.interface (Array.mk [("Unwrap", 163)])) 1 16 (Option.some Go.Value.nilIface) Bool.false)
noncomputable def ti162 : TI := (Go.Dn.TI.mk (Go.TypeDesc.slice 28) 1 24 (Option.some (Go.Value.slice Option.none 0 0)) Bool.true)
noncomputable def ti163 : TI := (Go.Dn.TI.mk (Go.TypeDesc.func (Array.mk []) (Array.mk [162]) Bool.false) 1 8 (Option.some Go.Value.nilFunc) Bool.true)
noncomputable def ti164 : TI := (Go.Dn.TI.mk (Go.TypeDesc.int Go.IntKind.u64) 1 8 (Option.some (Go.Value.int Go.IntKind.u64 (Int.ofNat 0))) Bool.true)
noncomputable def ti165 : TI := (Go.Dn.TI.mk (Go.TypeDesc.array 2 5) 2 2 (Option.some (Go.Value.agg (Array.mk [Go.Value.int Go.IntKind.u8 (Int.ofNat 0), Go.Value.int Go.IntKind.u8 (Int.ofNat 0)]))) Bool.true)
noncomputable def ti166 : TI := (Go.Dn.TI.mk (Go.TypeDesc.array 4 5) 4 4 (Option.some (Go.Value.agg (Array.mk [Go.Value.int Go.IntKind.u8 (Int.ofNat 0), Go.Value.int Go.IntKind.u8 (Int.ofNat 0), Go.Value.int Go.IntKind.u8 (Int.ofNat 0), Go.Value.int Go.IntKind.u8 (Int.ofNat 0)]))) Bool.true)
noncomputable def ti167 : TI := (Go.Dn.TI.mk (Go.TypeDesc.func (Array.mk [3, 3]) (Array.mk [22]) Bool.false) 1 8 (Option.some Go.Value.nilFunc) Bool.true)
noncomputable def ti168 : TI := (Go.Dn.TI.mk (Go.TypeDesc.pointer 192) 1 8 (Option.some (Go.Value.pointer Option.none)) Bool.true)
noncomputable def ti169 : TI := (Go.Dn.TI.mk (Go.TypeDesc.func (Array.mk []) (Array.mk [9]) Bool.false) 1 8 (Option.some Go.Value.nilFunc) Bool.true)
noncomputable def ti170 : TI := (Go.Dn.TI.mk (Go.TypeDesc.struct (Array.mk [Go.Field.mk "_interface" 17 0 Bool.false "" "runtime" 0, Go.Field.mk "concrete" 17 1 Bool.false "" "runtime" 8, Go.Field.mk "asserted" 17 2 Bool.false "" "runtime" 16, Go.Field.mk "missingMethod" 9 3 Bool.false "" "runtime" 24])) 4 40 (Option.some (Go.Value.agg (Array.mk [Go.Value.pointer Option.none, Go.Value.pointer Option.none, Go.Value.pointer Option.none, Go.Value.string (ByteArray.mk (Array.mk []))]))) Bool.false)
noncomputable def ti171 : TI := (Go.Dn.TI.mk (Go.TypeDesc.struct (Array.mk [Go.Field.mk "_interface" 17 0 Bool.false "" "runtime" 0, Go.Field.mk "concrete" 17 1 Bool.false "" "runtime" 8, Go.Field.mk "asserted" 17 2 Bool.false "" "runtime" 16, Go.Field.mk "missingMethod" 9 3 Bool.false "" "runtime" 24])) 4 40 (Option.some (Go.Value.agg (Array.mk [Go.Value.pointer Option.none, Go.Value.pointer Option.none, Go.Value.pointer Option.none, Go.Value.string (ByteArray.mk (Array.mk []))]))) Bool.false)
noncomputable def ti172 : TI := (Go.Dn.TI.mk (Go.TypeDesc.array 0 16) 0 0 (Option.some (Go.Value.agg (Array.mk []))) Bool.true)
noncomputable def ti173 : TI := (Go.Dn.TI.mk (Go.TypeDesc.struct (Array.mk [Go.Field.mk "_" 172 0 Bool.false "" "runtime" 0])) 0 0 (Option.some (Go.Value.agg (Array.mk []))) Bool.false)
noncomputable def ti174 : TI := (Go.Dn.TI.mk (Go.TypeDesc.struct (Array.mk [Go.Field.mk "_" 172 0 Bool.false "" "runtime" 0])) 0 0 (Option.some (Go.Value.agg (Array.mk []))) Bool.false)
noncomputable def ti175 : TI := (Go.Dn.TI.mk (Go.TypeDesc.int Go.IntKind.u8) 1 1 (Option.some (Go.Value.int Go.IntKind.u8 (Int.ofNat 0))) Bool.true)
noncomputable def ti176 : TI := (Go.Dn.TI.mk (Go.TypeDesc.int Go.IntKind.u8) 1 1 (Option.some (Go.Value.int Go.IntKind.u8 (Int.ofNat 0))) Bool.true)
noncomputable def ti177 : TI := (Go.Dn.TI.mk (Go.TypeDesc.func (Array.mk [193, 193]) (Array.mk [4]) Bool.false) 1 8 (Option.some Go.Value.nilFunc) Bool.true)
noncomputable def ti178 : TI := (Go.Dn.TI.mk (Go.TypeDesc.pointer 5) 1 8 (Option.some (Go.Value.pointer Option.none)) Bool.true)
noncomputable def ti179 : TI := (Go.Dn.TI.mk (Go.TypeDesc.int Go.IntKind.i32) 1 4 (Option.some (Go.Value.int Go.IntKind.i32 (Int.ofNat 0))) Bool.true)
noncomputable def ti180 : TI := (Go.Dn.TI.mk (Go.TypeDesc.int Go.IntKind.i32) 1 4 (Option.some (Go.Value.int Go.IntKind.i32 (Int.ofNat 0))) Bool.true)
noncomputable def ti181 : TI := (Go.Dn.TI.mk (Go.TypeDesc.struct (Array.mk [Go.Field.mk "Size_" 12 0 Bool.false "" "" 0, Go.Field.mk "PtrBytes" 12 1 Bool.false "" "" 8, Go.Field.mk "Hash" 41 2 Bool.false "" "" 16, Go.Field.mk "TFlag" 175 3 Bool.false "" "" 20, Go.Field.mk "Align_" 5 4 Bool.false "" "" 21, Go.Field.mk "FieldAlign_" 5 5 Bool.false "" "" 22, Go.Field.mk "Kind_" 176 6 Bool.false "" "" 23, Go.Field.mk "Equal" 177 7 Bool.false "" "" 24, Go.Field.mk "GCData" 178 8 Bool.false "" "" 32, Go.Field.mk "Str" 179 9 Bool.false "" "" 40, Go.Field.mk "PtrToThis" 180 10 Bool.false "" "" 44])) 11 48 (Option.some (Go.Value.agg (Array.mk [Go.Value.int Go.IntKind.u64 (Int.ofNat 0), Go.Value.int Go.IntKind.u64 (Int.ofNat 0), Go.Value.int Go.IntKind.u32 (Int.ofNat 0), Go.Value.int Go.IntKind.u8 (Int.ofNat 0), Go.Value.int Go.IntKind.u8 (Int.ofNat 0), Go.Value.int Go.IntKind.u8 (Int.ofNat 0), Go.Value.int Go.IntKind.u8 (Int.ofNat 0), Go.Value.nilFunc, Go.Value.pointer Option.none, Go.Value.int Go.IntKind.i32 (Int.ofNat 0), Go.Value.int Go.IntKind.i32 (Int.ofNat 0)]))) Bool.false)
noncomputable def ti182 : TI := (Go.Dn.TI.mk (Go.TypeDesc.struct (Array.mk [Go.Field.mk "Size_" 12 0 Bool.false "" "" 0, Go.Field.mk "PtrBytes" 12 1 Bool.false "" "" 8, Go.Field.mk "Hash" 41 2 Bool.false "" "" 16, Go.Field.mk "TFlag" 175 3 Bool.false "" "" 20, Go.Field.mk "Align_" 5 4 Bool.false "" "" 21, Go.Field.mk "FieldAlign_" 5 5 Bool.false "" "" 22, Go.Field.mk "Kind_" 176 6 Bool.false "" "" 23, Go.Field.mk "Equal" 177 7 Bool.false "" "" 24, Go.Field.mk "GCData" 178 8 Bool.false "" "" 32, Go.Field.mk "Str" 179 9 Bool.false "" "" 40, Go.Field.mk "PtrToThis" 180 10 Bool.false "" "" 44])) 11 48 (Option.some (Go.Value.agg (Array.mk [Go.Value.int Go.IntKind.u64 (Int.ofNat 0), Go.Value.int Go.IntKind.u64 (Int.ofNat 0), Go.Value.int Go.IntKind.u32 (Int.ofNat 0), Go.Value.int Go.IntKind.u8 (Int.ofNat 0), Go.Value.int Go.IntKind.u8 (Int.ofNat 0), Go.Value.int Go.IntKind.u8 (Int.ofNat 0), Go.Value.int Go.IntKind.u8 (Int.ofNat 0), Go.Value.nilFunc, Go.Value.pointer Option.none, Go.Value.int Go.IntKind.i32 (Int.ofNat 0), Go.Value.int Go.IntKind.i32 (Int.ofNat 0)]))) Bool.false)
noncomputable def ti183 : TI := (Go.Dn.TI.mk (Go.TypeDesc.func (Array.mk [146]) (Array.mk [4]) Bool.false) 1 8 (Option.some Go.Value.nilFunc) Bool.true)
noncomputable def ti184 : TI := (Go.Dn.TI.mk (Go.TypeDesc.func (Array.mk []) (Array.mk [146]) Bool.false) 1 8 (Option.some Go.Value.nilFunc) Bool.true)
noncomputable def ti185 : TI := (Go.Dn.TI.mk (Go.TypeDesc.func (Array.mk []) (Array.mk [176]) Bool.false) 1 8 (Option.some Go.Value.nilFunc) Bool.true)
noncomputable def ti186 : TI := (Go.Dn.TI.mk (Go.TypeDesc.func (Array.mk []) (Array.mk [12]) Bool.false) 1 8 (Option.some Go.Value.nilFunc) Bool.true)
noncomputable def ti187 : TI := (Go.Dn.TI.mk (Go.TypeDesc.func (Array.mk []) (Array.mk [17]) Bool.false) 1 8 (Option.some Go.Value.nilFunc) Bool.true)
noncomputable def ti188 : TI := (Go.Dn.TI.mk (Go.TypeDesc.func (Array.mk []) (Array.mk [194]) Bool.false) 1 8 (Option.some Go.Value.nilFunc) Bool.true)
noncomputable def ti189 : TI := (Go.Dn.TI.mk (Go.TypeDesc.struct (Array.mk [Go.Field.mk "Method" 9 0 Bool.false "" "" 0, Go.Field.mk "Kind" 176 1 Bool.false "" "" 16])) 2 24 (Option.some (Go.Value.agg (Array.mk [Go.Value.string (ByteArray.mk (Array.mk [])), Go.Value.int Go.IntKind.u8 (Int.ofNat 0)]))) Bool.false)
noncomputable def ti190 : TI := (Go.Dn.TI.mk (Go.TypeDesc.struct (Array.mk [Go.Field.mk "Method" 9 0 Bool.false "" "" 0, Go.Field.mk "Kind" 176 1 Bool.false "" "" 16])) 2 24 (Option.some (Go.Value.agg (Array.mk [Go.Value.string (ByteArray.mk (Array.mk [])), Go.Value.int Go.IntKind.u8 (Int.ofNat 0)]))) Bool.false)
noncomputable def ti191 : TI := (Go.Dn.TI.mk (Go.TypeDesc.struct (Array.mk [Go.Field.mk "s" 9 0 Bool.false "" "errors" 0])) 1 16 (Option.some (Go.Value.agg (Array.mk [Go.Value.string (ByteArray.mk (Array.mk []))]))) Bool.true)
noncomputable def ti192 : TI := (Go.Dn.TI.mk (Go.TypeDesc.struct (Array.mk [Go.Field.mk "s" 9 0 Bool.false "" "errors" 0])) 1 16 (Option.some (Go.Value.agg (Array.mk [Go.Value.string (ByteArray.mk (Array.mk []))]))) Bool.true)
noncomputable def ti193 : TI := (Go.Dn.TI.mk Go.TypeDesc.unsafePointer 1 8 (Option.some (Go.Value.pointer Option.none)) Bool.true)
noncomputable def ti194 : TI := (Go.Dn.TI.mk (Go.TypeDesc.pointer 197) 1 8 (Option.some (Go.Value.pointer Option.none)) Bool.true)
noncomputable def ti195 : TI := (Go.Dn.TI.mk (Go.TypeDesc.func (Array.mk []) (Array.mk [198]) Bool.false) 1 8 (Option.some Go.Value.nilFunc) Bool.true)
noncomputable def ti196 : TI := (Go.Dn.TI.mk (Go.TypeDesc.struct (Array.mk [Go.Field.mk "PkgPath" 179 0 Bool.false "" "" 0, Go.Field.mk "Mcount" 82 1 Bool.false "" "" 4, Go.Field.mk "Xcount" 82 2 Bool.false "" "" 6, Go.Field.mk "Moff" 41 3 Bool.false "" "" 8, Go.Field.mk "_" 41 4 Bool.false "" "internal/abi" 12])) 5 16 (Option.some (Go.Value.agg (Array.mk [Go.Value.int Go.IntKind.i32 (Int.ofNat 0), Go.Value.int Go.IntKind.u16 (Int.ofNat 0), Go.Value.int Go.IntKind.u16 (Int.ofNat 0), Go.Value.int Go.IntKind.u32 (Int.ofNat 0), Go.Value.int Go.IntKind.u32 (Int.ofNat 0)]))) Bool.false)
noncomputable def ti197 : TI := (Go.Dn.TI.mk (Go.TypeDesc.struct (Array.mk [Go.Field.mk "PkgPath" 179 0 Bool.false "" "" 0, Go.Field.mk "Mcount" 82 1 Bool.false "" "" 4, Go.Field.mk "Xcount" 82 2 Bool.false "" "" 6, Go.Field.mk "Moff" 41 3 Bool.false "" "" 8, Go.Field.mk "_" 41 4 Bool.false "" "internal/abi" 12])) 5 16 (Option.some (Go.Value.agg (Array.mk [Go.Value.int Go.IntKind.i32 (Int.ofNat 0), Go.Value.int Go.IntKind.u16 (Int.ofNat 0), Go.Value.int Go.IntKind.u16 (Int.ofNat 0), Go.Value.int Go.IntKind.u32 (Int.ofNat 0), Go.Value.int Go.IntKind.u32 (Int.ofNat 0)]))) Bool.false)
noncomputable def ti198 : TI := (Go.Dn.TI.mk (Go.TypeDesc.slice 201) 1 24 (Option.some (Go.Value.slice Option.none 0 0)) Bool.true)
noncomputable def ti199 : TI := (Go.Dn.TI.mk (Go.TypeDesc.int Go.IntKind.i32) 1 4 (Option.some (Go.Value.int Go.IntKind.i32 (Int.ofNat 0))) Bool.true)
noncomputable def ti200 : TI := (Go.Dn.TI.mk (Go.TypeDesc.struct (Array.mk [Go.Field.mk "Name" 179 0 Bool.false "" "" 0, Go.Field.mk "Mtyp" 180 1 Bool.false "" "" 4, Go.Field.mk "Ifn" 199 2 Bool.false "" "" 8, Go.Field.mk "Tfn" 199 3 Bool.false "" "" 12])) 4 16 (Option.some (Go.Value.agg (Array.mk [Go.Value.int Go.IntKind.i32 (Int.ofNat 0), Go.Value.int Go.IntKind.i32 (Int.ofNat 0), Go.Value.int Go.IntKind.i32 (Int.ofNat 0), Go.Value.int Go.IntKind.i32 (Int.ofNat 0)]))) Bool.false)
noncomputable def ti201 : TI := (Go.Dn.TI.mk (Go.TypeDesc.struct (Array.mk [Go.Field.mk "Name" 179 0 Bool.false "" "" 0, Go.Field.mk "Mtyp" 180 1 Bool.false "" "" 4, Go.Field.mk "Ifn" 199 2 Bool.false "" "" 8, Go.Field.mk "Tfn" 199 3 Bool.false "" "" 12])) 4 16 (Option.some (Go.Value.agg (Array.mk [Go.Value.int Go.IntKind.i32 (Int.ofNat 0), Go.Value.int Go.IntKind.i32 (Int.ofNat 0), Go.Value.int Go.IntKind.i32 (Int.ofNat 0), Go.Value.int Go.IntKind.i32 (Int.ofNat 0)]))) Bool.false)
noncomputable def ti202 : TI := (Go.Dn.TI.mk (Go.TypeDesc.func (Array.mk [9]) (Array.mk [28]) Bool.false) 1 8 (Option.some Go.Value.nilFunc) Bool.true)
noncomputable def types : Tr TI := (.node (.node (.node (.node (.node (.node (.node (.node .nil (some ti127) .nil) (some ti63) (.node .nil (some ti191) .nil)) (some ti31) (.node (.node .nil (some ti159) .nil) (some ti95) .nil)) (some ti15) (.node (.node (.node .nil (some ti143) .nil) (some ti79) .nil) (some ti47) (.node (.node .nil (some ti175) .nil) (some ti111) .nil))) (some ti7) (.node (.node (.node (.node .nil (some ti135) .nil) (some ti71) (.node .nil (some ti199) .nil)) (some ti39) (.node (.node .nil (some ti167) .nil) (some ti103) .nil)) (some ti23) (.node (.node (.node .nil (some ti151) .nil) (some ti87) .nil) (some ti55) (.node (.node .nil (some ti183) .nil) (some ti119) .nil)))) (some ti3) (.node (.node (.node (.node (.node .nil (some ti131) .nil) (some ti67) (.node .nil (some ti195) .nil)) (some ti35) (.node (.node .nil (some ti163) .nil) (some ti99) .nil)) (some ti19) (.node (.node (.node .nil (some ti147) .nil) (some ti83) .nil) (some ti51) (.node (.node .nil (some ti179) .nil) (some ti115) .nil))) (some ti11) (.node (.node (.node (.node .nil (some ti139) .nil) (some ti75) .nil) (some ti43) (.node (.node .nil (some ti171) .nil) (some ti107) .nil)) (some ti27) (.node (.node (.node .nil (some ti155) .nil) (some ti91) .nil) (some ti59) (.node (.node .nil (some ti187) .nil) (some ti123) .nil))))) (some ti1) (.node (.node (.node (.node (.node (.node .nil (some ti129) .nil) (some ti65) (.node .nil (some ti193) .nil)) (some ti33) (.node (.node .nil (some ti161) .nil) (some ti97) .nil)) (some ti17) (.node (.node (.node .nil (some ti145) .nil) (some ti81) .nil) (some ti49) (.node (.node .nil (some ti177) .nil) (some ti113) .nil))) (some ti9) (.node (.node (.node (.node .nil (some ti137) .nil) (some ti73) (.node .nil (some ti201) .nil)) (some ti41) (.node (.node .nil (some ti169) .nil) (some ti105) .nil)) (some ti25) (.node (.node (.node .nil (some ti153) .nil) (some ti89) .nil) (some ti57) (.node (.node .nil (some ti185) .nil) (some ti121) .nil)))) (some ti5) (.node (.node (.node (.node (.node .nil (some ti133) .nil) (some ti69) (.node .nil (some ti197) .nil)) (some ti37) (.node (.node .nil (some ti165) .nil) (some ti101) .nil)) (some ti21) (.node (.node (.node .nil (some ti149) .nil) (some ti85) .nil) (some ti53) (.node (.node .nil (some ti181) .nil) (some ti117) .nil))) (some ti13) (.node (.node (.node (.node .nil (some ti141) .nil) (some ti77) .nil) (some ti45) (.node (.node .nil (some ti173) .nil) (some ti109) .nil)) (some ti29) (.node (.node (.node .nil (some ti157) .nil) (some ti93) .nil) (some ti61) (.node (.node .nil (some ti189) .nil) (some ti125) .nil)))))) (some ti0) (.node (.node (.node (.node (.node (.node (.node .nil (some ti128) .nil) (some ti64) (.node .nil (some ti192) .nil)) (some ti32) (.node (.node .nil (some ti160) .nil) (some ti96) .nil)) (some ti16) (.node (.node (.node .nil (some ti144) .nil) (some ti80) .nil) (some ti48) (.node (.node .nil (some ti176) .nil) (some ti112) .nil))) (some ti8) (.node (.node (.node (.node .nil (some ti136) .nil) (some ti72) (.node .nil (some ti200) .nil)) (some ti40) (.node (.node .nil (some ti168) .nil) (some ti104) .nil)) (some ti24) (.node (.node (.node .nil (some ti152) .nil) (some ti88) .nil) (some ti56) (.node (.node .nil (some ti184) .nil) (some ti120) .nil)))) (some ti4) (.node (.node (.node (.node (.node .nil (some ti132) .nil) (some ti68) (.node .nil (some ti196) .nil)) (some ti36) (.node (.node .nil (some ti164) .nil) (some ti100) .nil)) (some ti20) (.node (.node (.node .nil (some ti148) .nil) (some ti84) .nil) (some ti52) (.node (.node .nil (some ti180) .nil) (some ti116) .nil))) (some ti12) (.node (.node (.node (.node .nil (some ti140) .nil) (some ti76) .nil) (some ti44) (.node (.node .nil (some ti172) .nil) (some ti108) .nil)) (some ti28) (.node (.node (.node .nil (some ti156) .nil) (some ti92) .nil) (some ti60) (.node (.node .nil (some ti188) .nil) (some ti124) .nil))))) (some ti2) (.node (.node (.node (.node (.node (.node .nil (some ti130) .nil) (some ti66) (.node .nil (some ti194) .nil)) (some ti34) (.node (.node .nil (some ti162) .nil) (some ti98) .nil)) (some ti18) (.node (.node (.node .nil (some ti146) .nil) (some ti82) .nil) (some ti50) (.node (.node .nil (some ti178) .nil) (some ti114) .nil))) (some ti10) (.node (.node (.node (.node .nil (some ti138) .nil) (some ti74) (.node .nil (some ti202) .nil)) (some ti42) (.node (.node .nil (some ti170) .nil) (some ti106) .nil)) (some ti26) (.node (.node (.node .nil (some ti154) .nil) (some ti90) .nil) (some ti58) (.node (.node .nil (some ti186) .nil) (some ti122) .nil)))) (some ti6) (.node (.node (.node (.node (.node .nil (some ti134) .nil) (some ti70) (.node .nil (some ti198) .nil)) (some ti38) (.node (.node .nil (some ti166) .nil) (some ti102) .nil)) (some ti22) (.node (.node (.node .nil (some ti150) .nil) (some ti86) .nil) (some ti54) (.node (.node .nil (some ti182) .nil) (some ti118) .nil))) (some ti14) (.node (.node (.node (.node .nil (some ti142) .nil) (some ti78) .nil) (some ti46) (.node (.node .nil (some ti174) .nil) (some ti110) .nil)) (some ti30) (.node (.node (.node .nil (some ti158) .nil) (some ti94) .nil) (some ti62) (.node (.node .nil (some ti190) .nil) (some ti126) .nil)))))))
noncomputable def funs : Tr Func := (.node (.node (.node (.node (.node (.node (.node .nil (some Tryd.f63) .nil) (some Tryd.f31) .nil) (some Tryd.f15) (.node .nil (some Tryd.f47) .nil)) (some Tryd.f7) (.node (.node .nil (some Tryd.f39) .nil) (some Tryd.f23) (.node .nil (some Tryd.f55) .nil))) (some Tryd.f3) (.node (.node (.node (.node .nil (some Tryd.f67) .nil) (some Tryd.f35) .nil) (some Tryd.f19) (.node .nil (some Tryd.f51) .nil)) (some Tryd.f11) (.node (.node (.node .nil (some Tryd.f75) .nil) (some Tryd.f43) .nil) (some Tryd.f27) (.node .nil (some Tryd.f59) .nil)))) none (.node (.node (.node (.node (.node .nil (some Tryd.f65) .nil) (some Tryd.f33) .nil) (some Tryd.f17) (.node .nil (some Tryd.f49) .nil)) (some Tryd.f9) (.node (.node (.node .nil (some Tryd.f73) .nil) (some Tryd.f41) .nil) (some Tryd.f25) (.node .nil (some Tryd.f57) .nil))) (some Tryd.f5) (.node (.node (.node (.node .nil (some Tryd.f69) .nil) (some Tryd.f37) .nil) (some Tryd.f21) (.node .nil (some Tryd.f53) .nil)) (some Tryd.f13) (.node (.node (.node .nil (some Tryd.f77) .nil) (some Tryd.f45) .nil) (some Tryd.f29) (.node .nil (some Tryd.f61) .nil))))) none (.node (.node (.node (.node (.node (.node .nil (some Tryd.f64) .nil) (some Tryd.f32) .nil) (some Tryd.f16) (.node .nil (some Tryd.f48) .nil)) (some Tryd.f8) (.node (.node (.node .nil (some Tryd.f72) .nil) (some Tryd.f40) .nil) (some Tryd.f24) (.node .nil (some Tryd.f56) .nil))) (some Tryd.f4) (.node (.node (.node (.node .nil (some Tryd.f68) .nil) (some Tryd.f36) .nil) (some Tryd.f20) (.node .nil (some Tryd.f52) .nil)) (some Tryd.f12) (.node (.node (.node .nil (some Tryd.f76) .nil) (some Tryd.f44) .nil) (some Tryd.f28) (.node .nil (some Tryd.f60) .nil)))) none (.node (.node (.node (.node (.node .nil (some Tryd.f66) .nil) (some Tryd.f34) .nil) (some Tryd.f18) (.node .nil (some Tryd.f50) .nil)) (some Tryd.f10) (.node (.node (.node .nil (some Tryd.f74) .nil) (some Tryd.f42) .nil) (some Tryd.f26) (.node .nil (some Tryd.f58) .nil))) (some Tryd.f6) (.node (.node (.node (.node .nil (some Tryd.f70) .nil) (some Tryd.f38) .nil) (some Tryd.f22) (.node .nil (some Tryd.f54) .nil)) (some Tryd.f14) (.node (.node (.node .nil (some Tryd.f78) .nil) (some Tryd.f46) .nil) (some Tryd.f30) (.node .nil (some Tryd.f62) .nil))))))
noncomputable def inf3 : Tr (List Nat × List Nat) := (.node (.node (.node (.node .nil none (.node (.node (.node .nil none (.node (.node (.node .nil none (.node (.node (.node (.node (.node .nil none (.node (.node .nil none (.node .nil none (.node .nil none (.node .nil (some ([0, 1, 2, 6, 7, 8, 9, 10, 11], [])) .nil)))) none .nil)) none .nil) none .nil) none .nil) none .nil)) none .nil) none .nil)) none .nil) none .nil)) none .nil) none (.node .nil none (.node .nil none (.node .nil (some ([0, 1, 0, 0, 12, 28, 63, 127, 255, 511, 1023, 2047, 4095, 8191, 16383, 8191, 40959, 131071, 262143, 524287], [0, 1, 2, 3, 4, 5, 6, 7, 8, 9, 10, 11, 12, 13, 15, 16, 14, 17, 18, 19])) .nil)))) none (.node (.node .nil none (.node (.node .nil none (.node (.node .nil none (.node .nil none (.node (.node .nil none (.node .nil none (.node (.node (.node (.node .nil none (.node .nil none (.node .nil none (.node (.node .nil none (.node .nil none (.node (.node .nil (some ([0, 1, 2, 6, 7, 8, 9, 10, 11], [])) .nil) none .nil))) none .nil)))) none .nil) none .nil) none .nil))) none .nil))) none .nil)) none (.node (.node (.node .nil none (.node .nil none (.node (.node .nil none (.node .nil none (.node (.node (.node (.node .nil none (.node .nil none (.node .nil none (.node (.node .nil none (.node .nil none (.node (.node .nil (some ([0, 1, 2, 6, 7, 8, 9, 10, 11, 12], [])) .nil) none .nil))) none .nil)))) none .nil) none .nil) none .nil))) none .nil))) none .nil) none .nil))) none (.node (.node .nil none (.node (.node (.node .nil none (.node .nil none (.node (.node .nil none (.node .nil none (.node (.node (.node (.node .nil none (.node .nil none (.node .nil none (.node (.node .nil none (.node .nil none (.node (.node .nil (some ([0, 1, 2, 6, 7, 8, 9, 10, 11], [])) .nil) none .nil))) none .nil)))) none .nil) none .nil) none .nil))) none .nil))) none .nil) none .nil)) none (.node .nil none (.node (.node (.node .nil none (.node .nil none (.node (.node .nil none (.node .nil none (.node (.node (.node (.node .nil none (.node .nil none (.node .nil none (.node (.node .nil none (.node .nil none (.node (.node .nil (some ([0, 1, 2, 6, 7, 8, 9, 10, 11, 12], [])) .nil) none .nil))) none .nil)))) none .nil) none .nil) none .nil))) none .nil))) none .nil) none .nil)))))
noncomputable def inf4 : Tr (List Nat × List Nat) := (.node .nil none (.node .nil none (.node (.node (.node .nil none (.node (.node .nil none (.node (.node (.node .nil none (.node (.node (.node (.node (.node .nil none (.node (.node .nil none (.node .nil none (.node .nil none (.node .nil (some ([2, 3, 7, 8, 9, 10, 46, 51, 52, 53], [])) .nil)))) none .nil)) none .nil) none .nil) none .nil) none .nil)) none .nil) none .nil)) none .nil)) none .nil) none (.node (.node (.node (.node .nil none (.node (.node (.node .nil none (.node (.node (.node (.node (.node .nil none (.node (.node .nil none (.node .nil none (.node .nil none (.node .nil (some ([2, 3, 4, 24, 25, 26], [])) .nil)))) none .nil)) none .nil) none .nil) none .nil) none .nil)) none .nil) none .nil)) none .nil) none .nil) none (.node (.node (.node .nil none (.node (.node (.node .nil none (.node (.node (.node (.node (.node .nil none (.node (.node .nil none (.node .nil none (.node .nil none (.node .nil (some ([2, 3, 4, 44, 45, 46], [])) .nil)))) none .nil)) none .nil) none .nil) none .nil) none .nil)) none .nil) none .nil)) none .nil) none .nil)))))
noncomputable def inf5 : Tr (List Nat × List Nat) := (.node .nil none (.node (.node (.node .nil (some ([0, 0, 0, 0, 12, 28, 63, 127, 255, 255, 0, 1535, 4095], [0, 1, 2, 3, 4, 5, 10, 6, 7, 8, 9, 11, 12])) .nil) none .nil) none (.node .nil none (.node (.node (.node (.node .nil none (.node (.node (.node .nil none (.node (.node (.node (.node (.node .nil none (.node (.node .nil none (.node .nil none (.node .nil none (.node .nil (some ([0, 2, 3, 4, 5], [])) .nil)))) none .nil)) none .nil) none .nil) none .nil) none .nil)) none .nil) none .nil)) none .nil) none .nil) none .nil))))
noncomputable def inf6 : Tr (List Nat × List Nat) := (.node .nil none (.node (.node (.node .nil (some ([0, 0, 0, 0, 12, 28, 63, 127, 255, 255, 511], [0, 1, 2, 3, 4, 5, 6, 7, 8, 9, 10])) .nil) none .nil) none (.node .nil none (.node (.node (.node (.node .nil none (.node (.node (.node .nil none (.node (.node (.node (.node (.node .nil none (.node (.node .nil none (.node .nil none (.node .nil none (.node .nil (some ([0, 1, 4, 5, 6, 7], [])) .nil)))) none .nil)) none .nil) none .nil) none .nil) none .nil)) none .nil) none .nil)) none .nil) none .nil) none (.node (.node (.node .nil none (.node (.node (.node .nil none (.node (.node (.node (.node (.node .nil none (.node (.node .nil none (.node .nil none (.node .nil none (.node .nil (some ([1, 4, 5, 9, 12], [])) .nil)))) none .nil)) none .nil) none .nil) none .nil) none .nil)) none .nil) none .nil)) none .nil) none .nil)))))
noncomputable def inf8 : Tr (List Nat × List Nat) := (.node (.node (.node (.node .nil none (.node (.node (.node .nil none (.node (.node (.node .nil none (.node (.node (.node (.node (.node .nil none (.node (.node .nil none (.node .nil none (.node .nil none (.node .nil (some ([0, 1, 4, 5, 6, 7, 8, 9, 10, 11], [])) .nil)))) none .nil)) none .nil) none .nil) none .nil) none .nil)) none .nil) none .nil)) none .nil) none .nil)) none .nil) none .nil) none (.node (.node .nil none (.node (.node (.node .nil (some ([0, 0, 3, 7, 15, 0, 0, 96, 224, 480, 1023], [0, 1, 2, 3, 4, 5, 6, 7, 8, 9, 10])) .nil) (some ([0, 0, 3, 7, 15, 31, 15, 127, 255, 511, 1023, 1023, 3071, 7167, 16383, 32767, 1023, 66559, 197631, 524287, 1048575, 2097151, 4194303, 4194303, 12582911, 29360127, 67108863, 134217727, 268435455, 536870911, 1073741823, 2147483647, 2147483647, 6442450943, 15032385535, 32212254719, 68719476735, 137438953471, 274877906943, 549755813887], [0, 1, 2, 3, 4, 6, 5, 7, 8, 9, 10, 11, 12, 13, 14, 15, 16, 17, 18, 19, 20, 21, 22, 23, 24, 25, 26, 27, 28, 29, 30, 31, 32, 33, 34, 35, 36, 37, 38, 39])) .nil) none .nil)) none (.node (.node (.node (.node .nil none (.node .nil none (.node (.node (.node .nil none (.node (.node (.node (.node (.node .nil none (.node (.node .nil none (.node .nil none (.node .nil none (.node .nil (some ([4, 5, 6, 7, 8, 9, 10, 24], [])) .nil)))) none .nil)) none .nil) none .nil) none .nil) none .nil)) none .nil) none .nil))) none .nil) (some ([0, 0, 0, 0, 12, 28, 63, 127, 255, 255, 0, 1535, 4095], [0, 1, 2, 3, 4, 5, 10, 6, 7, 8, 9, 11, 12])) .nil) none (.node (.node (.node .nil (some ([0, 1, 3, 7, 15, 31, 7, 95, 223, 511, 1023, 2047, 4095, 8191, 16383, 4095, 49151, 114687, 262143, 524287, 1048575], [0, 1, 2, 3, 6, 4, 5, 7, 8, 9, 10, 11, 12, 15, 13, 14, 16, 17, 18, 19, 20])) .nil) none .nil) none .nil))))
noncomputable def inf9 : Tr (List Nat × List Nat) := (.node (.node (.node .nil none (.node .nil none (.node (.node (.node .nil none (.node (.node (.node .nil none (.node (.node (.node (.node (.node .nil none (.node (.node .nil none (.node .nil none (.node .nil none (.node .nil (some ([2, 3, 5, 6, 7, 8, 17, 23, 24, 25], [])) .nil)))) none .nil)) none .nil) none .nil) none .nil) none .nil)) none .nil) none .nil)) none .nil) none .nil))) none (.node .nil none (.node (.node (.node (.node .nil none (.node (.node (.node .nil none (.node (.node (.node (.node (.node .nil none (.node (.node .nil none (.node .nil none (.node .nil none (.node .nil (some ([2, 3, 15, 16, 17], [])) .nil)))) none .nil)) none .nil) none .nil) none .nil) none .nil)) none .nil) none .nil)) none .nil) none .nil) none .nil))) none .nil)
noncomputable def inf10 : Tr (List Nat × List Nat) := (.node .nil none (.node (.node (.node .nil (some ([0, 0, 0, 0, 12, 28, 63, 127, 255, 255, 0, 1535, 4095], [0, 1, 2, 3, 4, 5, 10, 6, 7, 8, 9, 11, 12])) .nil) none .nil) none (.node .nil none (.node (.node (.node (.node .nil none (.node (.node (.node .nil none (.node (.node (.node (.node (.node .nil none (.node (.node .nil none (.node .nil none (.node .nil none (.node .nil (some ([0, 2, 3, 4, 5], [])) .nil)))) none .nil)) none .nil) none .nil) none .nil) none .nil)) none .nil) none .nil)) none .nil) none .nil) none .nil))))
noncomputable def inf11 : Tr (List Nat × List Nat) := (.node (.node (.node (.node .nil none (.node (.node (.node .nil none (.node (.node (.node .nil none (.node (.node (.node (.node (.node .nil none (.node (.node .nil none (.node .nil none (.node .nil none (.node .nil (some ([0, 1, 4, 5, 6, 7, 8], [])) .nil)))) none .nil)) none .nil) none .nil) none .nil) none .nil)) none .nil) none .nil)) none .nil) none .nil)) none .nil) none (.node (.node (.node (.node .nil (some ([0, 1, 0, 0, 12, 28, 63, 127, 255, 511, 1023, 2047, 4095, 8191, 16383, 32767, 65535, 131071, 262143, 524287, 1048575, 2097151, 4194303], [0, 1, 2, 3, 4, 5, 6, 7, 8, 9, 10, 11, 12, 13, 14, 15, 16, 17, 18, 19, 20, 21, 22])) .nil) none .nil) none .nil) none (.node (.node .nil (some ([0, 1, 0, 4, 0, 28, 63, 127, 255, 511, 255, 255, 255, 255, 8447, 28927, 64767, 130303, 262143, 524287, 1048575, 2097151, 2097151, 8388607, 16777215, 33554431, 67108863, 134217727, 268435455, 536870911, 1073741823, 2147483647, 4294967295, 8589934591, 8589934591, 34359738367, 68719476735, 137438953471, 274877906943, 549755813887, 1099511627775, 549755813887, 549755813887, 7146825580543, 15942918602751, 35184372088831, 70368744177663, 140737488355327, 281474976710655, 562949953421311, 1125899906842623, 562949953421311, 2814749767106559, 562949953421311, 16325548649218047, 36028797018963967, 72057594037927935, 144115188075855871, 144115188075855871, 576460752303423487, 1152921504606846975, 144115188075855871, 2449958197289549823, 9223372036854775807, 18446744073709551615, 36893488147419103231], [0, 1, 2, 3, 4, 5, 6, 7, 8, 9, 10, 11, 12, 13, 14, 15, 16, 17, 18, 19, 20, 21, 22, 23, 24, 25, 26, 27, 28, 29, 30, 31, 32, 33, 34, 35, 36, 37, 38, 39, 40, 41, 42, 43, 44, 45, 46, 47, 48, 49, 50, 51, 52, 53, 54, 55, 56, 57, 58, 59, 60, 61, 62, 63, 64, 65])) .nil) none .nil))) none (.node .nil none (.node (.node (.node .nil none (.node (.node .nil none (.node (.node (.node .nil none (.node (.node (.node (.node (.node .nil none (.node (.node .nil none (.node .nil none (.node .nil none (.node .nil (some ([1, 4, 5, 6, 7, 12, 13], [])) .nil)))) none .nil)) none .nil) none .nil) none .nil) none .nil)) none .nil) none .nil)) none .nil)) none (.node .nil none (.node (.node .nil none (.node (.node (.node .nil none (.node (.node (.node (.node (.node .nil none (.node (.node .nil none (.node .nil none (.node .nil none (.node .nil (some ([4, 5, 6, 7, 12, 13, 15, 16], [])) .nil)))) none .nil)) none .nil) none .nil) none .nil) none .nil)) none .nil) none .nil)) none .nil))) none .nil)))
noncomputable def inf14 : Tr (List Nat × List Nat) := (.node (.node (.node (.node .nil (some ([0, 1, 3, 7, 0, 16, 48, 0, 128, 511, 1023], [0, 1, 2, 3, 4, 5, 7, 8, 6, 9, 10])) .nil) none .nil) none .nil) none (.node (.node .nil (some ([0, 0, 3], [0, 1, 2])) .nil) (some ([0, 0, 3], [0, 1, 2])) .nil))
noncomputable def inf16 : Tr (List Nat × List Nat) := (.node (.node (.node .nil (some ([0, 1, 3, 7, 15, 0, 32, 96, 224, 511, 1023], [0, 1, 2, 3, 5, 6, 7, 8, 4, 9, 10])) .nil) none .nil) none .nil)
noncomputable def inf17 : Tr (List Nat × List Nat) := (.node (.node .nil none (.node .nil (some ([0, 0, 0, 4, 12, 28, 0, 64, 192, 448, 0, 1984, 4094, 8190, 16383, 32767], [0, 1, 2, 3, 4, 5, 6, 7, 8, 9, 10, 11, 12, 13, 14, 15])) .nil)) none (.node .nil none (.node (.node (.node (.node (.node .nil none (.node (.node (.node .nil none (.node (.node (.node (.node (.node .nil none (.node (.node .nil none (.node .nil none (.node .nil none (.node .nil (some ([0, 1, 4, 5], [])) .nil)))) none .nil)) none .nil) none .nil) none .nil) none .nil)) none .nil) none .nil)) none .nil) none .nil) none .nil) none .nil)))
noncomputable def inf22 : Tr (List Nat × List Nat) := (.node (.node (.node (.node .nil (some ([0, 1, 3, 7, 0, 31, 63], [0, 1, 2, 3, 4, 5, 6])) .nil) none (.node (.node .nil (some ([0, 0, 2, 1, 9, 31, 63, 127, 1, 257, 1023, 2047], [0, 1, 2, 3, 4, 5, 6, 7, 8, 9, 10, 11])) .nil) (some ([0, 1, 0, 4, 12, 28, 60, 124, 255], [0, 1, 2, 3, 4, 5, 6, 7, 8])) .nil)) none (.node (.node (.node .nil (some ([0, 1, 3, 7, 0, 0, 63], [0, 1, 2, 3, 4, 5, 6])) .nil) none .nil) none (.node .nil (some ([0, 1, 3, 7, 15, 0, 32, 127, 255, 511, 1023, 2047], [0, 1, 2, 3, 4, 5, 6, 7, 8, 9, 10, 11])) .nil))) none .nil)
noncomputable def inf24 : Tr (List Nat × List Nat) := (.node (.node (.node .nil none (.node (.node (.node (.node .nil none (.node (.node (.node .nil none (.node (.node (.node (.node (.node .nil none (.node (.node .nil none (.node .nil none (.node .nil none (.node .nil (some ([0, 2, 3], [])) .nil)))) none .nil)) none .nil) none .nil) none .nil) none .nil)) none .nil) none .nil)) none .nil) none .nil) none .nil)) none .nil) none .nil)
noncomputable def inf25 : Tr (List Nat × List Nat) := (.node (.node .nil none (.node .nil (some ([0, 0, 0, 6, 14, 30, 62, 30, 254, 510, 127, 2047], [0, 1, 2, 3, 4, 5, 7, 6, 8, 9, 10, 11])) (.node .nil (some ([0, 0, 2, 0, 14, 7, 63], [0, 1, 3, 2, 4, 5, 6])) .nil))) none (.node (.node (.node .nil (some ([0, 0, 0, 4, 14, 30, 0, 64, 254, 31, 1023], [0, 1, 2, 3, 6, 7, 4, 5, 8, 9, 10])) .nil) none .nil) none (.node (.node .nil (some ([0, 0, 2, 0, 14, 30, 62, 126, 254, 126, 638, 1662, 4094, 8190, 16382, 32766, 65534, 32766, 163838, 524286, 1048574, 131071, 4194303], [0, 1, 3, 2, 4, 5, 6, 7, 9, 10, 11, 8, 12, 13, 14, 15, 17, 18, 16, 19, 20, 21, 22])) .nil) none .nil)))
noncomputable def inf27 : Tr (List Nat × List Nat) := (.node (.node (.node (.node .nil none (.node (.node (.node .nil none (.node (.node (.node .nil none (.node (.node (.node (.node (.node .nil none (.node (.node .nil none (.node .nil none (.node .nil none (.node .nil (some ([0, 2, 3, 4, 5, 6], [])) .nil)))) none .nil)) none .nil) none .nil) none .nil) none .nil)) none .nil) none .nil)) none .nil) none .nil)) none .nil) none .nil) none .nil)
noncomputable def inf28 : Tr (List Nat × List Nat) := (.node (.node .nil none (.node (.node .nil none (.node (.node (.node .nil none (.node (.node (.node .nil none (.node (.node (.node (.node (.node .nil none (.node (.node .nil none (.node .nil none (.node .nil none (.node .nil (some ([1, 2, 4, 5, 6, 7, 9], [])) .nil)))) none .nil)) none .nil) none .nil) none .nil) none .nil)) none .nil) none .nil)) none .nil) none .nil)) none (.node (.node (.node (.node .nil none (.node (.node (.node .nil none (.node (.node (.node (.node (.node .nil none (.node (.node .nil none (.node .nil none (.node .nil none (.node .nil (some ([1, 2, 4, 5, 6, 7, 8], [])) .nil)))) none .nil)) none .nil) none .nil) none .nil) none .nil)) none .nil) none .nil)) none .nil) none .nil) none .nil))) none .nil)
noncomputable def inf29 : Tr (List Nat × List Nat) := (.node (.node (.node (.node .nil none (.node (.node (.node .nil none (.node (.node (.node .nil none (.node (.node (.node (.node (.node .nil none (.node (.node .nil none (.node .nil none (.node .nil none (.node .nil (some ([1, 5, 6], [])) .nil)))) none .nil)) none .nil) none .nil) none .nil) none .nil)) none .nil) none .nil)) none .nil) none .nil)) none .nil) none (.node (.node (.node (.node (.node .nil none (.node (.node (.node .nil none (.node (.node (.node (.node (.node .nil none (.node (.node .nil none (.node .nil none (.node .nil none (.node .nil (some ([0, 1, 8, 9], [])) .nil)))) none .nil)) none .nil) none .nil) none .nil) none .nil)) none .nil) none .nil)) none .nil) none .nil) none .nil) none .nil)) none .nil)
noncomputable def inf30 : Tr (List Nat × List Nat) := (.node .nil none (.node .nil none (.node .nil none (.node (.node (.node (.node .nil none (.node (.node (.node .nil none (.node (.node (.node (.node (.node .nil none (.node (.node .nil none (.node .nil none (.node .nil none (.node .nil (some ([1, 2, 4, 5, 7, 8], [])) .nil)))) none .nil)) none .nil) none .nil) none .nil) none .nil)) none .nil) none .nil)) none .nil) none .nil) none .nil))))
noncomputable def inf31 : Tr (List Nat × List Nat) := (.node (.node (.node (.node .nil none (.node .nil none (.node (.node .nil none (.node (.node (.node .nil none (.node (.node (.node (.node (.node .nil none (.node (.node .nil none (.node .nil none (.node .nil none (.node .nil (some ([0, 2, 3, 9, 10, 11], [])) .nil)))) none .nil)) none .nil) none .nil) none .nil) none .nil)) none .nil) none .nil)) none .nil))) none (.node (.node (.node (.node .nil none (.node (.node (.node .nil none (.node (.node (.node (.node (.node .nil none (.node (.node .nil none (.node .nil none (.node .nil none (.node .nil (some ([0, 2, 3, 4], [])) .nil)))) none .nil)) none .nil) none .nil) none .nil) none .nil)) none .nil) none .nil)) none .nil) none (.node (.node .nil none (.node (.node (.node .nil none (.node (.node (.node (.node (.node .nil none (.node (.node .nil none (.node .nil none (.node .nil none (.node .nil (some ([0, 2, 3, 9], [])) .nil)))) none .nil)) none .nil) none .nil) none .nil) none .nil)) none .nil) none .nil)) none .nil)) none .nil)) none .nil) none (.node (.node .nil none (.node .nil none (.node .nil none (.node (.node .nil none (.node (.node (.node .nil none (.node (.node (.node (.node (.node .nil none (.node (.node .nil none (.node .nil none (.node .nil none (.node .nil (some ([2, 3, 9, 10, 12], [])) .nil)))) none .nil)) none .nil) none .nil) none .nil) none .nil)) none .nil) none .nil)) none .nil)))) none (.node (.node .nil none (.node (.node (.node .nil none (.node (.node (.node .nil none (.node (.node (.node (.node (.node .nil none (.node (.node .nil none (.node .nil none (.node .nil none (.node .nil (some ([0, 2, 3, 6], [])) .nil)))) none .nil)) none .nil) none .nil) none .nil) none .nil)) none .nil) none .nil)) none .nil) none .nil)) none (.node (.node (.node (.node .nil none (.node (.node (.node .nil none (.node (.node (.node (.node (.node .nil none (.node (.node .nil none (.node .nil none (.node .nil none (.node .nil (some ([0, 2, 3, 4, 5], [])) .nil)))) none .nil)) none .nil) none .nil) none .nil) none .nil)) none .nil) none .nil)) none .nil) none .nil) none (.node (.node (.node .nil none (.node (.node (.node .nil none (.node (.node (.node (.node (.node .nil none (.node (.node .nil none (.node .nil none (.node .nil none (.node .nil (some ([0, 2, 3, 6, 7, 8], [])) .nil)))) none .nil)) none .nil) none .nil) none .nil) none .nil)) none .nil) none .nil)) none .nil) none .nil)))))
noncomputable def inf33 : Tr (List Nat × List Nat) := (.node (.node .nil none (.node .nil none (.node (.node (.node (.node .nil none (.node (.node (.node .nil none (.node (.node (.node (.node (.node .nil none (.node (.node .nil none (.node .nil none (.node .nil none (.node .nil (some ([2, 3, 11, 12, 13], [])) .nil)))) none .nil)) none .nil) none .nil) none .nil) none .nil)) none .nil) none .nil)) none .nil) none .nil) none .nil))) none .nil)
noncomputable def inf34 : Tr (List Nat × List Nat) := (.node .nil none (.node (.node .nil none (.node (.node (.node (.node .nil none (.node (.node (.node .nil none (.node (.node (.node (.node (.node .nil none (.node (.node .nil none (.node .nil none (.node .nil none (.node .nil (some ([0, 1, 4, 12, 13], [])) .nil)))) none .nil)) none .nil) none .nil) none .nil) none .nil)) none .nil) none .nil)) none .nil) none .nil) none .nil)) none (.node .nil (some ([0, 0, 3, 7, 0, 0, 48, 112, 255], [0, 1, 2, 3, 4, 5, 6, 7, 8])) .nil)))
noncomputable def inf35 : Tr (List Nat × List Nat) := (.node .nil none (.node (.node .nil none (.node (.node (.node (.node .nil none (.node (.node (.node .nil none (.node (.node (.node (.node (.node .nil none (.node (.node .nil none (.node .nil none (.node .nil none (.node .nil (some ([0, 1, 2, 6, 14, 15, 16], [])) .nil)))) none .nil)) none .nil) none .nil) none .nil) none .nil)) none .nil) none .nil)) none .nil) none .nil) none .nil)) none .nil))
noncomputable def inf36 : Tr (List Nat × List Nat) := (.node (.node .nil none (.node .nil none (.node (.node (.node (.node .nil none (.node (.node (.node .nil none (.node (.node (.node (.node (.node .nil none (.node (.node .nil none (.node .nil none (.node .nil none (.node .nil (some ([0, 1, 4, 5, 11, 12, 13], [])) .nil)))) none .nil)) none .nil) none .nil) none .nil) none .nil)) none .nil) none .nil)) none .nil) none .nil) none .nil))) none .nil)
noncomputable def inf40 : Tr (List Nat × List Nat) := (.node (.node (.node (.node .nil (some ([0, 0, 0, 4, 14, 30, 0, 64, 254, 31, 1023], [0, 1, 2, 3, 6, 7, 4, 5, 8, 9, 10])) .nil) none (.node .nil (some ([0, 0, 2, 0, 14, 30, 31, 127], [0, 1, 3, 2, 4, 5, 6, 7])) .nil)) none (.node (.node .nil (some ([0, 0, 2, 0, 14, 30, 62, 126, 254, 126, 638, 1662, 4094, 8190, 511, 32767], [0, 1, 3, 2, 4, 5, 6, 7, 9, 10, 11, 8, 12, 13, 14, 15])) .nil) none .nil)) none (.node (.node .nil (some ([0, 0, 0, 4, 12, 30, 62, 0, 254, 127, 1023], [0, 1, 2, 3, 7, 4, 5, 6, 8, 9, 10])) .nil) none .nil))
noncomputable def inf41 : Tr (List Nat × List Nat) := (.node (.node (.node .nil (some ([0, 1, 3, 0, 8, 31, 63, 127], [0, 1, 3, 4, 2, 5, 6, 7])) .nil) (some ([0, 1, 3, 0, 8, 24, 63], [0, 1, 2, 3, 4, 5, 6])) .nil) none (.node .nil (some ([0, 0, 3], [0, 1, 2])) .nil))
noncomputable def inf44 : Tr (List Nat × List Nat) := (.node (.node .nil none (.node .nil (some ([0, 0, 0, 4, 12, 28, 0, 64, 192, 448, 0, 1984, 4094, 8191, 16383], [0, 1, 2, 3, 4, 5, 6, 7, 8, 9, 10, 11, 12, 13, 14])) .nil)) none (.node .nil none (.node (.node (.node (.node (.node .nil none (.node (.node (.node .nil none (.node (.node (.node (.node (.node .nil none (.node (.node .nil none (.node .nil none (.node .nil none (.node .nil (some ([0, 1, 4, 5], [])) .nil)))) none .nil)) none .nil) none .nil) none .nil) none .nil)) none .nil) none .nil)) none .nil) none .nil) none .nil) none .nil)))
noncomputable def inf45 : Tr (List Nat × List Nat) := (.node (.node (.node .nil (some ([0, 1, 3, 7, 15, 31, 0, 64, 192, 448, 1023, 2047], [0, 1, 2, 3, 4, 6, 7, 8, 9, 5, 10, 11])) .nil) none .nil) none .nil)
noncomputable def inf48 : Tr (List Nat × List Nat) := (.node .nil none (.node .nil (some ([0, 0, 3], [0, 1, 2])) .nil))
noncomputable def inf49 : Tr (List Nat × List Nat) := (.node (.node .nil none (.node .nil (some ([0, 1, 3, 7, 15, 0, 32, 96, 224, 511, 1023, 2047, 2047, 6143, 14335, 30719, 2047, 67583, 198655, 460799, 1046527, 2097151, 4194303, 8388607], [0, 1, 2, 3, 4, 5, 6, 7, 8, 9, 10, 11, 12, 13, 14, 15, 16, 17, 18, 19, 20, 21, 22, 23])) .nil)) none .nil)
noncomputable def inf50 : Tr (List Nat × List Nat) := (.node (.node (.node .nil none (.node (.node (.node (.node .nil none (.node (.node (.node .nil none (.node (.node (.node (.node (.node .nil none (.node (.node .nil none (.node .nil none (.node .nil none (.node .nil (some ([2, 3, 6, 7, 8], [])) .nil)))) none .nil)) none .nil) none .nil) none .nil) none .nil)) none .nil) none .nil)) none .nil) none .nil) none .nil)) none .nil) none .nil)
noncomputable def inf52 : Tr (List Nat × List Nat) := (.node .nil none (.node (.node .nil (some ([0, 1, 3, 7, 15, 31, 63, 0, 128, 384, 896, 1920, 3968, 8064, 127, 32767, 65535], [0, 1, 2, 3, 4, 5, 6, 7, 8, 9, 10, 11, 12, 13, 14, 15, 16])) .nil) none .nil))
noncomputable def inf56 : Tr (List Nat × List Nat) := (.node (.node (.node .nil (some ([0, 1, 3, 7, 15, 0, 32, 96, 224, 480, 1023, 0, 4095], [0, 1, 2, 3, 4, 5, 6, 7, 8, 9, 10, 11, 12])) .nil) (some ([0, 0, 2, 6, 14, 30, 1, 65, 255, 511, 1023, 1, 2049, 8191, 16383], [0, 1, 2, 3, 4, 5, 6, 7, 8, 9, 10, 11, 12, 13, 14])) (.node (.node .nil none (.node (.node (.node .nil none (.node (.node (.node .nil none (.node (.node (.node (.node (.node .nil none (.node (.node .nil none (.node .nil none (.node .nil none (.node .nil (some ([0, 5, 71, 72, 73], [])) .nil)))) none .nil)) none .nil) none .nil) none .nil) none .nil)) none .nil) none .nil)) none .nil) none .nil)) (some ([0, 1, 3, 7, 0, 31], [0, 1, 2, 3, 4, 5])) .nil)) none (.node (.node .nil (some ([0, 1, 3, 7, 0, 31, 0, 127], [0, 1, 2, 3, 4, 5, 6, 7])) .nil) none (.node .nil (some ([0, 1, 3, 7, 15, 0, 32, 96, 224, 480, 992, 2047], [0, 1, 2, 3, 4, 5, 6, 7, 8, 9, 10, 11])) .nil)))
noncomputable def inf59 : Tr (List Nat × List Nat) := (.node .nil none (.node .nil none (.node .nil none (.node (.node (.node (.node .nil none (.node (.node (.node .nil none (.node (.node (.node (.node (.node .nil none (.node (.node .nil none (.node .nil none (.node .nil none (.node .nil (some ([0, 1, 4, 5, 6, 20, 21, 22], [])) .nil)))) none .nil)) none .nil) none .nil) none .nil) none .nil)) none .nil) none .nil)) none .nil) none .nil) none .nil))))
noncomputable def inf63 : Tr (List Nat × List Nat) := (.node .nil none (.node .nil none (.node .nil none (.node (.node (.node (.node .nil none (.node (.node (.node .nil none (.node (.node (.node (.node (.node .nil none (.node (.node .nil none (.node .nil none (.node .nil none (.node .nil (some ([2, 4, 5, 6, 8, 9], [])) .nil)))) none .nil)) none .nil) none .nil) none .nil) none .nil)) none .nil) none .nil)) none .nil) none .nil) none .nil))))
noncomputable def inf64 : Tr (List Nat × List Nat) := (.node .nil none (.node (.node (.node .nil none (.node (.node (.node .nil none (.node (.node (.node .nil none (.node (.node (.node (.node (.node .nil none (.node (.node .nil none (.node .nil none (.node .nil none (.node .nil (some ([1, 2, 4, 5, 6, 7, 8, 9, 10], [])) .nil)))) none .nil)) none .nil) none .nil) none .nil) none .nil)) none .nil) none .nil)) none .nil) none .nil)) none (.node (.node (.node (.node .nil none (.node (.node (.node .nil none (.node (.node (.node (.node (.node .nil none (.node (.node .nil none (.node .nil none (.node .nil none (.node .nil (some ([1, 2, 4, 5, 6, 7, 8], [])) .nil)))) none .nil)) none .nil) none .nil) none .nil) none .nil)) none .nil) none .nil)) none .nil) none .nil) none .nil)) none .nil))
noncomputable def inf65 : Tr (List Nat × List Nat) := (.node (.node (.node .nil none (.node (.node (.node (.node .nil none (.node (.node (.node .nil none (.node (.node (.node (.node (.node .nil none (.node (.node .nil none (.node .nil none (.node .nil none (.node .nil (some ([1, 2, 3, 4], [])) .nil)))) none .nil)) none .nil) none .nil) none .nil) none .nil)) none .nil) none .nil)) none .nil) none .nil) none .nil)) none .nil) none .nil)
noncomputable def inf72 : Tr (List Nat × List Nat) := (.node (.node .nil none (.node (.node (.node (.node (.node .nil none (.node (.node (.node .nil none (.node (.node (.node (.node (.node .nil none (.node (.node .nil none (.node .nil none (.node .nil none (.node .nil (some ([0, 1, 2, 6], [])) .nil)))) none .nil)) none .nil) none .nil) none .nil) none .nil)) none .nil) none .nil)) none .nil) none (.node (.node .nil none (.node (.node (.node .nil none (.node (.node (.node (.node (.node .nil none (.node (.node .nil none (.node .nil none (.node .nil none (.node .nil (some ([1, 2, 6, 31, 43, 44, 45], [])) .nil)))) none .nil)) none .nil) none .nil) none .nil) none .nil)) none .nil) none .nil)) none .nil)) none .nil) none .nil)) none .nil)
noncomputable def inf73 : Tr (List Nat × List Nat) := (.node (.node (.node .nil (some ([0, 1, 3, 0, 8, 31, 63, 127], [0, 1, 3, 4, 2, 5, 6, 7])) .nil) (some ([0, 1, 3, 0, 8, 24, 63], [0, 1, 2, 3, 4, 5, 6])) .nil) none .nil)
noncomputable def inf78 : Tr (List Nat × List Nat) := (.node (.node (.node .nil none (.node (.node (.node (.node .nil none (.node (.node (.node .nil none (.node (.node (.node (.node (.node .nil none (.node (.node .nil none (.node .nil none (.node .nil none (.node .nil (some ([0, 4, 5, 6], [])) .nil)))) none .nil)) none .nil) none .nil) none .nil) none .nil)) none .nil) none .nil)) none .nil) none .nil) none .nil)) none .nil) none .nil)
noncomputable def infs : Tr (Tr (List Nat × List Nat)) := (.node (.node (.node (.node (.node (.node (.node .nil (some inf63) .nil) (some inf31) .nil) none .nil) none .nil) (some inf3) (.node (.node (.node .nil (some inf35) .nil) none .nil) (some inf11) (.node .nil (some inf27) (.node .nil (some inf59) .nil)))) none (.node (.node (.node (.node (.node .nil (some inf65) .nil) (some inf33) .nil) (some inf17) (.node .nil (some inf49) .nil)) (some inf9) (.node (.node (.node .nil (some inf73) .nil) (some inf41) .nil) (some inf25) .nil)) (some inf5) (.node .nil none (.node (.node .nil (some inf45) .nil) (some inf29) .nil)))) none (.node (.node (.node (.node (.node (.node .nil (some inf64) .nil) none .nil) (some inf16) (.node .nil (some inf48) .nil)) (some inf8) (.node (.node (.node .nil (some inf72) .nil) (some inf40) .nil) (some inf24) (.node .nil (some inf56) .nil))) (some inf4) (.node (.node (.node .nil (some inf36) .nil) none (.node .nil (some inf52) .nil)) none (.node (.node .nil (some inf44) .nil) (some inf28) .nil))) none (.node (.node (.node (.node .nil (some inf34) .nil) none (.node .nil (some inf50) .nil)) (some inf10) .nil) (some inf6) (.node (.node .nil (some inf22) .nil) (some inf14) (.node (.node (.node .nil (some inf78) .nil) none .nil) (some inf30) .nil)))))
noncomputable def env : Env := ⟨types.get, 43⟩
noncomputable def bk : Bk := ⟨env, funs, infs⟩
theorem bk_types : (types.items 1 0).map (fun x => tiOf Tryd.prog x.1) = (types.items 1 0).map fun x => some x.2 := by kernel_rfl
theorem bk_mix : Tryd.prog.follows .mixedOrders = true := by kernel_rfl
theorem bk_funs : (funs.items 1 0).map (fun x => Tryd.prog.funcs[x.1]?) = (funs.items 1 0).map fun x => some x.2 := by kernel_rfl
theorem bk_ok : (funs.items 1 0).all (fun x => x.2.body.isSome && !(x.2.name == "runtime.NumGoroutine") && (x.2.body.map (okCode env (bk.inf x.1))).getD true) = true := by kernel_rfl
theorem bk_glob : env.G = Tryd.prog.globals.size := by kernel_rfl
theorem good : bk.Good Tryd.prog := Bk.good rfl bk_types bk_mix bk_funs bk_ok bk_glob
end
end Go.Dn.Tryd
end

section
set_option maxRecDepth 100000
namespace Go.Dn.Pipe
open Go.Proofs

/-! ## the constants of these laws: forty-two sentinels -/
def er (g : Nat) : Ob := .arr 28 [.iface 168 (.pointer (some ⟨g + 43, 0, none⟩))] .ro
def CE : Hp := ⟨86, (.node (.node (.node (.node (.node (.node .nil (some (er 31)) .nil) (some (er 15)) .nil) (some (er 7)) (.node (.node .nil (some (er 39)) .nil) (some (er 23)) .nil)) (some (er 3)) (.node (.node (.node .nil (some (er 35)) .nil) (some (er 19)) .nil) (some (er 11)) (.node .nil (some (er 27)) .nil))) (some (er 1)) (.node (.node (.node (.node .nil (some (er 33)) .nil) (some (er 17)) .nil) (some (er 9)) (.node (.node .nil (some (er 41)) .nil) (some (er 25)) .nil)) (some (er 5)) (.node (.node (.node .nil (some (er 37)) .nil) (some (er 21)) .nil) (some (er 13)) (.node .nil (some (er 29)) .nil)))) (some (er 0)) (.node (.node (.node (.node (.node .nil (some (er 32)) .nil) (some (er 16)) .nil) (some (er 8)) (.node (.node .nil (some (er 40)) .nil) (some (er 24)) .nil)) (some (er 4)) (.node (.node (.node .nil (some (er 36)) .nil) (some (er 20)) .nil) (some (er 12)) (.node .nil (some (er 28)) .nil))) none (.node (.node (.node (.node .nil (some (er 34)) .nil) (some (er 18)) .nil) (some (er 10)) (.node (.node .nil (some (er 42)) .nil) (some (er 26)) .nil)) (some (er 6)) (.node (.node (.node .nil (some (er 38)) .nil) (some (er 22)) .nil) (some (er 14)) (.node .nil (some (er 30)) .nil)))))⟩
/-- which globals are sentinels -/
def errs : List Nat := [0, 1, 3, 4, 5, 6, 7, 8, 9, 10, 11, 12, 13, 14, 15, 16, 17, 18, 19, 20, 21, 22, 23, 24, 25, 26, 27, 28, 29, 30, 31, 32, 33, 34, 35, 36, 37, 38, 39, 40, 41, 42]

theorem CE_items : (CE.tr.items 1 0).all (fun x => errs.elem x.1 && match x.2 with
    | .arr 28 [.iface 168 (.pointer (some ⟨k, 0, none⟩))] .ro => Nat.beq k (x.1 + 43)
    | _ => false) = true := by decide +kernel

theorem CE_get {i : Nat} {o : Ob} (h : CE.get i = some o) : i ∈ errs ∧ o = er i := by
  have hm := Tr.get_mem h
  have := List.all_eq_true.1 CE_items _ hm
  simp only [Bool.and_eq_true] at this
  obtain ⟨h1, h2⟩ := this
  refine ⟨by simpa using h1, ?_⟩
  split at h2
  · rename_i k
    have hk : k = i + 43 := by simpa using h2
    subst hk
    rfl
  · cases h2

/-! ## errors.Is -/
def isF : List Value → Hp → Option (Value × Hp)
  | [.nilIface, .iface 168 (.pointer (some _))], A => some (.bool false, A)
  | [.iface 168 (.pointer (some ⟨i, 0, none⟩)), .iface 168 (.pointer (some ⟨j, 0, none⟩))], A =>
    bif Nat.ble 43 i && (Nat.blt i 86 && (Nat.ble 43 j && Nat.blt j 86)) then some (.bool (Nat.beq i j), A) else none
  | _, _ => none

theorem isF_ok [Reps] (hK : Reps.C.next = 86) : ∀ args A v A', isF args A = some (v, A') → ∀ (ρ : Gh) w (args' : Array Value), RelX Tryd.prog ρ A w → AR ρ.ρ args.toArray args' →
    Calls Tryd.prog 61 args' w fun e w' => ∃ v', e = .returned v' ∧ After Tryd.prog ρ A w v A' v' w' := by
  intro args A v A' h ρ w args' hr ha
  have hGs : Tryd.prog.globals.size = 43 := Tryd.good.glob.symm
  have two : ∀ x y : Value, args = [x, y] → ∃ x' y', args' = #[x', y'] ∧ VR ρ.ρ x x' ∧ VR ρ.ρ y y' := by
    intro x y e
    subst e
    have hs := ha.1
    obtain ⟨q⟩ := args'
    match q, hs with
    | [a, b], _ => exact ⟨a, b, rfl, ha.2 0 _ _ rfl rfl, ha.2 1 _ _ rfl rfl⟩
  unfold isF at h
  split at h
  · cases h
    obtain ⟨x', y', rfl, h1, h2⟩ := two _ _ rfl
    cases h1
    cases h2 with
    | iface _ _ _ h2 =>
    cases h2 with
    | ptr o hp =>
    refine (YtleljjahgofbcaaDoor.is_nil _ w).mono fun e w' he => ?_
    obtain ⟨rfl, rfl⟩ := he
    exact ⟨_, rfl, ρ, .bool _, hr, ExtX.refl _ _ _⟩
  · rename_i i j
    cases hc : (Nat.ble 43 i && (Nat.blt i 86 && (Nat.ble 43 j && Nat.blt j 86))) with
    | false => rw [hc] at h; cases h
    | true =>
      rw [hc] at h
      cases h
      simp only [Bool.and_eq_true, Nat.ble_eq, Nat.blt_eq] at hc
      obtain ⟨c1, c2, c3, c4⟩ := hc
      obtain ⟨x', y', rfl, h1, h2⟩ := two _ _ rfl
      cases h1 with
      | iface _ _ _ h1 =>
      cases h1 with
      | ptr _ hp =>
      rename_i p
      cases h2 with
      | iface _ _ _ h2 =>
      cases h2 with
      | ptr _ hq =>
      rename_i q
      by_cases e : i = j
      · subst e
        rw [hp] at hq; cases hq
        refine (YtleljjahgofbcaaDoor.is_same _ w).mono fun e w' he => ?_
        obtain ⟨rfl, rfl⟩ := he
        rw [Tr.beq_tt]
        exact ⟨_, rfl, ρ, .bool _, hr, ExtX.refl _ _ _⟩
      · have hp' := hp
        have hq' := hq
        rw [hr.con.loc i (by omega)] at hp'
        rw [hr.con.loc j (by omega)] at hq'
        obtain ⟨ca, ta, ha'⟩ := hr.con.cw.fz i p (by omega) (by omega) hp'
        obtain ⟨cb, tb, hb'⟩ := hr.con.cw.fz j q (by omega) (by omega) hq'
        have hne := hr.con.cw.inj i j p q (by omega) (by omega) e hp' hq'
        refine (YtleljjahgofbcaaDoor.is_other ⟨p.blk, p.off + 0, none⟩ ⟨q.blk, q.off + 0, none⟩ ca cb ta tb w (fun h => ?_) ha' hb').mono fun e' w' he => ?_
        · simp only [Addr.mk.injEq] at h
          rcases hne with h' | h'
          · exact h' h.1
          · exact h' (by omega)
        · obtain ⟨rfl, rfl⟩ := he
          rw [Tr.beq_ff e]
          exact ⟨_, rfl, ρ, .bool _, hr, ExtX.refl _ _ _⟩
  · cases h

theorem fn61 : ∃ x, Tryd.prog.funcs[61]? = some x ∧ x.body.isSome = true ∧ (x.name == "runtime.NumGoroutine") = false :=
  ⟨Tryd.f61, Tryd.func61, rfl, by decide +kernel⟩

end Go.Dn.Pipe
end

section
set_option maxRecDepth 100000
namespace Go.Dn
section
variable [Reps] {P : Program}
/-- what a run on the constants alone gives, is given everywhere -/
theorem closed_ok {call : CallT} (hC : CallOK P call) {f : FuncId} {us : List Value} {v : Value} {B' : Hp} (hcall : call f us Reps.C = some (v, B')) (hus : VMs (fun a b => a < Reps.C.next ∧ b = a) us us) (hv : plain0 v = true)
    (g : Gh) (A : Hp) (w : World) (args' : Array Value) (hA : RelX P g A w) (ha : AR g.ρ us.toArray args') : Calls P f args' w fun e w' => ∃ v', e = .returned v' ∧ After P g A w v A v' w' :=
  call_fun hC hA (im := []) (ims := []) rfl (by simp) [] (by simp) ha (hus.mono fun a b h => .inl h) hcall (es := []) rfl List.nodup_nil (by simp) (.plain hv)
end
end Go.Dn
namespace Go.Dn.Pipe
open Go.Proofs

def T0 : CallT := withCall noCalls 61 isF
/-- the sentinels' numbers -/
def codes : List (Nat × Int) := [(43, 1), (44, 27)]
def codeF : List Value → Hp → Option (Value × Hp)
  | [.nilIface], A => some (.int .i64 0, A)
  | [.iface 168 (.pointer (some ⟨k, 0, none⟩))], A => (codes.lookup k).map fun n => (.int .i64 n, A)
  | _, _ => none
noncomputable def codeRun (u : Value) : Option Value := (callD Tryd.bk T0 60 27 [u] CE).map (·.1)
theorem code_run : (codes.map fun x => codeRun (.iface 168 (.pointer (some ⟨x.1, 0, none⟩)))) = codes.map fun x => some (.int .i64 x.2) := by kernel_rfl
theorem code_nil : codeRun .nilIface = some (.int .i64 0) := by kernel_rfl
theorem wakes_run : (callD Tryd.bk T0 20 12 [] CE).map (·.1) = some (.bool true) := by kernel_rfl

theorem fn27 : ∃ x, Tryd.prog.funcs[27]? = some x ∧ x.body.isSome = true ∧ (x.name == "runtime.NumGoroutine") = false :=
  ⟨Tryd.f27, Tryd.func27, rfl, by decide +kernel⟩
theorem fn12 : ∃ x, Tryd.prog.funcs[12]? = some x ∧ x.body.isSome = true ∧ (x.name == "runtime.NumGoroutine") = false :=
  ⟨Tryd.f12, Tryd.func12, rfl, by decide +kernel⟩

def T1 : CallT := withCall T0 27 codeF
def wakesF : List Value → Hp → Option (Value × Hp)
  | [], A => some (.bool true, A)
  | _, _ => none
def T2 : CallT := withCall T1 12 wakesF

theorem lookup_mem : ∀ (l : List (Nat × Int)) (k : Nat) (n : Int), l.lookup k = some n → (k, n) ∈ l := by
  intro l
  induction l with
  | nil => intro k n h; cases h
  | cons x l ih =>
    intro k n h
    obtain ⟨a, b⟩ := x
    simp only [List.lookup] at h
    split at h
    · rename_i hb
      cases h
      have : k = a := by simpa using hb
      subst this
      exact List.mem_cons_self
    · exact List.mem_cons_of_mem _ (ih k n h)

section
variable [Reps] (hK : Reps.C = CE)
include hK

theorem T0_ok : CallOK Tryd.prog T0 := withCall_ok (noCalls_ok _) fn61 (isF_ok (by rw [hK]; rfl))

theorem T1_ok : CallOK Tryd.prog T1 := by
  refine withCall_ok (T0_ok hK) fn27 fun args A v A' h ρ w args' hr ha => ?_
  have hC := callD_ok Tryd.good (T0_ok hK) 60
  have hn : Reps.C.next = 86 := by rw [hK]; rfl
  unfold codeF at h
  split at h
  · cases h
    have h2 := code_nil
    unfold codeRun at h2
    cases hc : callD Tryd.bk T0 60 27 [.nilIface] CE with
    | none => rw [hc] at h2; cases h2
    | some r =>
      obtain ⟨v, B'⟩ := r
      rw [hc] at h2
      cases h2
      rw [← hK] at hc
      exact closed_ok hC hc (.cons (.plain rfl) .nil) rfl ρ A w args' hr ha
  · rename_i k
    cases hl : codes.lookup k with
    | none => rw [hl] at h; cases h
    | some n =>
      rw [hl] at h
      cases h
      have hm := lookup_mem _ _ _ hl
      obtain ⟨i, hi⟩ := List.getElem?_of_mem hm
      have h2 := congrArg (fun l => l[i]?) code_run
      simp only [List.getElem?_map, hi, Option.map_some, Option.some.injEq] at h2
      unfold codeRun at h2
      have hk : k < 86 := by
        have : codes.all (fun x => Nat.blt x.1 86) = true := rfl
        have := List.all_eq_true.1 this _ hm
        simpa [Nat.blt_eq] using this
      cases hc : callD Tryd.bk T0 60 27 [.iface 168 (.pointer (some ⟨k, 0, none⟩))] CE with
      | none => rw [hc] at h2; cases h2
      | some r =>
        obtain ⟨v, B'⟩ := r
        rw [hc] at h2
        simp only [Option.map_some, Option.some.injEq] at h2
        subst h2
        rw [← hK] at hc
        exact closed_ok hC hc (.cons (.iface _ (.ptr 0 ⟨by omega, rfl⟩)) .nil) rfl ρ A w args' hr ha
  · cases h

theorem T2_ok : CallOK Tryd.prog T2 := by
  refine withCall_ok (T1_ok hK) fn12 fun args A v A' h ρ w args' hr ha => ?_
  unfold wakesF at h
  split at h
  · cases h
    have h2 := wakes_run
    cases hc : callD Tryd.bk T0 20 12 [] CE with
    | none => rw [hc] at h2; cases h2
    | some r =>
      obtain ⟨v, B'⟩ := r
      rw [hc] at h2
      cases h2
      rw [← hK] at hc
      exact closed_ok (callD_ok Tryd.good (T0_ok hK) 20) hc .nil rfl ρ A w args' hr ha
  · cases h
end
end Go.Dn.Pipe
end
