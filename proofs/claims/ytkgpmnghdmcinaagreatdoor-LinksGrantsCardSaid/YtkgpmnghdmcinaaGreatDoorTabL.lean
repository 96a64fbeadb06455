/-
  A part of the proof that the law answers true for every input: TabL. Conditions: those of each theorem.
-/
import Derived.Test.YtkgpmnghdmcinaaGreatDoorProg
import Derived.Test.YtkgpmnghdmcinaaGreatDoorCoreC
set_option linter.all false
set_option autoImplicit true
namespace MI.Tryz
open Go Go.Proofs MI

def d0 : TypeDesc := Go.TypeDesc.tuple #[]
def d1 : TypeDesc := Go.TypeDesc.func #[] #[] false
def d2 : TypeDesc := Go.TypeDesc.int (Go.IntKind.i64)
def d3 : TypeDesc := Go.TypeDesc.int (Go.IntKind.i64)
def d4 : TypeDesc := Go.TypeDesc.bool
def d5 : TypeDesc := Go.TypeDesc.int (Go.IntKind.u8)
def d6 : TypeDesc := Go.TypeDesc.int (Go.IntKind.u8)
def d7 : TypeDesc := Go.TypeDesc.struct
  #[{ name := "x", type := 2, offset := 0, embedded := false, tag := "", pkgPath := "runtime", byteOffset := 0 },
    { name := "y", type := 3, offset := 1, embedded := false, tag := "", pkgPath := "runtime", byteOffset := 8 },
    { name := "signed", type := 4, offset := 2, embedded := false, tag := "", pkgPath := "runtime", byteOffset := 16 },
    { name := "code", type := 6, offset := 3, embedded := false, tag := "", pkgPath := "runtime", byteOffset := 17 }]
def d8 : TypeDesc := Go.TypeDesc.struct
  #[{ name := "x", type := 2, offset := 0, embedded := false, tag := "", pkgPath := "runtime", byteOffset := 0 },
    { name := "y", type := 3, offset := 1, embedded := false, tag := "", pkgPath := "runtime", byteOffset := 8 },
    { name := "signed", type := 4, offset := 2, embedded := false, tag := "", pkgPath := "runtime", byteOffset := 16 },
    { name := "code", type := 6, offset := 3, embedded := false, tag := "", pkgPath := "runtime", byteOffset := 17 }]
def d9 : TypeDesc := Go.TypeDesc.string
def d10 : TypeDesc := Go.TypeDesc.string
def d11 : TypeDesc := Go.TypeDesc.string
def d12 : TypeDesc := Go.TypeDesc.int (Go.IntKind.u64)
def d15 : TypeDesc := Go.TypeDesc.pointer 352
def d16 : TypeDesc := Go.TypeDesc.pointer 355
def d17 : TypeDesc := Go.TypeDesc.pointer 362
def d20 : TypeDesc := Go.TypeDesc.interface #[]
def d21 : TypeDesc := Go.TypeDesc.int (Go.IntKind.i32)
def d22 : TypeDesc := Go.TypeDesc.slice 30
def d23 : TypeDesc := Go.TypeDesc.array 32 5
def d24 : TypeDesc := Go.TypeDesc.array 32 5
def d25 : TypeDesc := Go.TypeDesc.func #[] #[4] false
def d26 : TypeDesc := Go.TypeDesc.func #[22] #[4] false
def d27 : TypeDesc := Go.TypeDesc.slice 9
def d28 : TypeDesc := Go.TypeDesc.slice 24
def d29 : TypeDesc := Go.TypeDesc.struct
  #[{ name := "Kind", type := 3, offset := 0, embedded := false, tag := "", pkgPath := "", byteOffset := 0 },
    { name := "Relations", type := 27, offset := 1, embedded := false, tag := "", pkgPath := "", byteOffset := 8 },
    { name := "Package", type := 9, offset := 2, embedded := false, tag := "", pkgPath := "", byteOffset := 32 },
    { name := "Prints", type := 28, offset := 3, embedded := false, tag := "", pkgPath := "", byteOffset := 48 },
    { name := "Site", type := 9, offset := 4, embedded := false, tag := "", pkgPath := "", byteOffset := 72 }]
def d30 : TypeDesc := Go.TypeDesc.struct
  #[{ name := "Kind", type := 3, offset := 0, embedded := false, tag := "", pkgPath := "", byteOffset := 0 },
    { name := "Relations", type := 27, offset := 1, embedded := false, tag := "", pkgPath := "", byteOffset := 8 },
    { name := "Package", type := 9, offset := 2, embedded := false, tag := "", pkgPath := "", byteOffset := 32 },
    { name := "Prints", type := 28, offset := 3, embedded := false, tag := "", pkgPath := "", byteOffset := 48 },
    { name := "Site", type := 9, offset := 4, embedded := false, tag := "", pkgPath := "", byteOffset := 72 }]
def d31 : TypeDesc := Go.TypeDesc.func #[22, 9, 24, 9] #[4] false
def d32 : TypeDesc := Go.TypeDesc.func #[22, 22, 9, 24, 9] #[4] false
def d33 : TypeDesc := Go.TypeDesc.func #[28, 24, 9] #[4] false
def d34 : TypeDesc := Go.TypeDesc.func #[27, 27] #[4] false
def d35 : TypeDesc := Go.TypeDesc.func #[22] #[27] false
def d36 : TypeDesc := Go.TypeDesc.func #[9] #[4] false
def d37 : TypeDesc := Go.TypeDesc.interface #[("Error", 94)]
def d38 : TypeDesc := Go.TypeDesc.interface #[("Error", 94)]
def d39 : TypeDesc := Go.TypeDesc.tuple #[9, 38]
def d40 : TypeDesc := Go.TypeDesc.func #[22] #[9, 38] false
def d41 : TypeDesc := Go.TypeDesc.tuple #[9, 3, 3]
def d42 : TypeDesc := Go.TypeDesc.func #[22] #[9, 3, 3] false
def d43 : TypeDesc := Go.TypeDesc.func #[38] #[3] false
def d44 : TypeDesc := Go.TypeDesc.tuple #[22, 38]
def d45 : TypeDesc := Go.TypeDesc.func #[46] #[22, 38] false
def d46 : TypeDesc := Go.TypeDesc.slice 5
def d47 : TypeDesc := Go.TypeDesc.func #[22, 50] #[4] false
def d48 : TypeDesc := Go.TypeDesc.func #[27, 9] #[4] false
def d49 : TypeDesc := Go.TypeDesc.func #[28, 24] #[4] false
def d50 : TypeDesc := Go.TypeDesc.func #[30] #[4] false
def d51 : TypeDesc := Go.TypeDesc.func #[9, 5] #[4] false
def d52 : TypeDesc := Go.TypeDesc.func #[5] #[5] false
def d53 : TypeDesc := Go.TypeDesc.func #[30] #[9, 38] false
def d54 : TypeDesc := Go.TypeDesc.func #[38, 38] #[4] false
def d55 : TypeDesc := Go.TypeDesc.int (Go.IntKind.i64)
def d56 : TypeDesc := Go.TypeDesc.func #[55, 3] #[38] false
def d57 : TypeDesc := Go.TypeDesc.func #[55, 3, 38] #[38] false
def d58 : TypeDesc := Go.TypeDesc.func #[27, 9] #[9] false
def d59 : TypeDesc := Go.TypeDesc.tuple #[9, 4]
def d60 : TypeDesc := Go.TypeDesc.func #[30] #[9, 4] false
def d61 : TypeDesc := Go.TypeDesc.pointer 65
def d62 : TypeDesc := Go.TypeDesc.func #[38, 20] #[4] false
def d63 : TypeDesc := Go.TypeDesc.pointer 61
def d64 : TypeDesc := Go.TypeDesc.struct
  #[{ name := "Kind", type := 55, offset := 0, embedded := false, tag := "", pkgPath := "", byteOffset := 0 },
    { name := "At", type := 3, offset := 1, embedded := false, tag := "", pkgPath := "", byteOffset := 8 },
    { name := "Inner", type := 38, offset := 2, embedded := false, tag := "", pkgPath := "", byteOffset := 16 }]
def d65 : TypeDesc := Go.TypeDesc.struct
  #[{ name := "Kind", type := 55, offset := 0, embedded := false, tag := "", pkgPath := "", byteOffset := 0 },
    { name := "At", type := 3, offset := 1, embedded := false, tag := "", pkgPath := "", byteOffset := 8 },
    { name := "Inner", type := 38, offset := 2, embedded := false, tag := "", pkgPath := "", byteOffset := 16 }]
def d66 : TypeDesc := Go.TypeDesc.pointer 114
def d67 : TypeDesc := Go.TypeDesc.tuple #[66, 38]
def d68 : TypeDesc := Go.TypeDesc.func #[46, 70] #[66, 38] false
def d69 : TypeDesc := Go.TypeDesc.struct
  #[{ name := "Bytes", type := 3, offset := 0, embedded := false, tag := "", pkgPath := "", byteOffset := 0 },
    { name := "Deep", type := 3, offset := 1, embedded := false, tag := "", pkgPath := "", byteOffset := 8 },
    { name := "Nodes", type := 3, offset := 2, embedded := false, tag := "", pkgPath := "", byteOffset := 16 }]
def d70 : TypeDesc := Go.TypeDesc.struct
  #[{ name := "Bytes", type := 3, offset := 0, embedded := false, tag := "", pkgPath := "", byteOffset := 0 },
    { name := "Deep", type := 3, offset := 1, embedded := false, tag := "", pkgPath := "", byteOffset := 8 },
    { name := "Nodes", type := 3, offset := 2, embedded := false, tag := "", pkgPath := "", byteOffset := 16 }]
def d71 : TypeDesc := Go.TypeDesc.pointer 73
def d72 : TypeDesc := Go.TypeDesc.struct
  #[{ name := "doc",
      type := 66,
      offset := 0,
      embedded := false,
      tag := "",
      pkgPath := "waybill/links",
      byteOffset := 0 },
    { name := "err",
      type := 38,
      offset := 1,
      embedded := false,
      tag := "",
      pkgPath := "waybill/links",
      byteOffset := 8 }]
def d73 : TypeDesc := Go.TypeDesc.struct
  #[{ name := "doc",
      type := 66,
      offset := 0,
      embedded := false,
      tag := "",
      pkgPath := "waybill/links",
      byteOffset := 0 },
    { name := "err",
      type := 38,
      offset := 1,
      embedded := false,
      tag := "",
      pkgPath := "waybill/links",
      byteOffset := 8 }]
def d74 : TypeDesc := Go.TypeDesc.func #[3, 3] #[4] false
def d75 : TypeDesc := Go.TypeDesc.slice 3
def d76 : TypeDesc := Go.TypeDesc.tuple #[75, 38]
def d77 : TypeDesc := Go.TypeDesc.func #[3] #[75, 38] false
def d78 : TypeDesc := Go.TypeDesc.func #[3, 38] #[] false
def d79 : TypeDesc := Go.TypeDesc.func #[3] #[30] false
def d80 : TypeDesc := Go.TypeDesc.func #[22, 50] #[3] false
def d81 : TypeDesc := Go.TypeDesc.func #[27, 9] #[3] false
def d82 : TypeDesc := Go.TypeDesc.func #[27, 27] #[9, 38] false
def d83 : TypeDesc := Go.TypeDesc.func #[27] #[9, 38] false
def d84 : TypeDesc := Go.TypeDesc.interface
  #[("AssignableTo", 106), ("Comparable", 25), ("Elem", 103), ("Implements", 106), ("Kind", 105), ("Name", 94),
    ("PkgPath", 94), ("Size", 364), ("String", 94), ("internal/reflectlite.common", 356),
    ("internal/reflectlite.uncommon", 365)]
def d85 : TypeDesc := Go.TypeDesc.interface
  #[("AssignableTo", 106), ("Comparable", 25), ("Elem", 103), ("Implements", 106), ("Kind", 105), ("Name", 94),
    ("PkgPath", 94), ("Size", 364), ("String", 94), ("internal/reflectlite.common", 356),
    ("internal/reflectlite.uncommon", 365)]
def d86 : TypeDesc := Go.TypeDesc.func #[20] #[85] false
def d87 : TypeDesc := Go.TypeDesc.func #[38, 38, 4] #[4] false
def d88 : TypeDesc := Go.TypeDesc.pointer 90
def d89 : TypeDesc := Go.TypeDesc.struct
  #[{ name := "addr", type := 88, offset := 0, embedded := false, tag := "", pkgPath := "strings", byteOffset := 0 },
    { name := "buf", type := 46, offset := 1, embedded := false, tag := "", pkgPath := "strings", byteOffset := 8 }]
def d90 : TypeDesc := Go.TypeDesc.struct
  #[{ name := "addr", type := 88, offset := 0, embedded := false, tag := "", pkgPath := "strings", byteOffset := 0 },
    { name := "buf", type := 46, offset := 1, embedded := false, tag := "", pkgPath := "strings", byteOffset := 8 }]
def d91 : TypeDesc := Go.TypeDesc.func #[3] #[] false
def d92 : TypeDesc := Go.TypeDesc.tuple #[3, 38]
def d93 : TypeDesc := Go.TypeDesc.func #[9] #[3, 38] false
def d94 : TypeDesc := Go.TypeDesc.func #[] #[9] false
def d95 : TypeDesc := Go.TypeDesc.func #[9] #[9, 4] false
def d96 : TypeDesc := Go.TypeDesc.func #[27] #[9, 4] false
def d97 : TypeDesc := Go.TypeDesc.func #[24] #[9] false
def d98 : TypeDesc := Go.TypeDesc.unsafePointer
def d99 : TypeDesc := Go.TypeDesc.int (Go.IntKind.u64)
def d102 : TypeDesc := Go.TypeDesc.func #[20] #[101] false
def d103 : TypeDesc := Go.TypeDesc.func #[] #[85] false
def d104 : TypeDesc := Go.TypeDesc.int (Go.IntKind.u8)
def d105 : TypeDesc := Go.TypeDesc.func #[] #[104] false
def d106 : TypeDesc := Go.TypeDesc.func #[85] #[4] false
def d107 : TypeDesc := Go.TypeDesc.func #[38, 20, 101, 85] #[4] false
def d108 : TypeDesc := Go.TypeDesc.pointer 117
def d109 : TypeDesc := Go.TypeDesc.pointer 170
def d110 : TypeDesc := Go.TypeDesc.func #[3] #[109] false
def d111 : TypeDesc := Go.TypeDesc.struct
  #[{ name := "Kind", type := 3, offset := 0, embedded := false, tag := "", pkgPath := "", byteOffset := 0 },
    { name := "Key", type := 9, offset := 1, embedded := false, tag := "", pkgPath := "", byteOffset := 8 },
    { name := "Text", type := 9, offset := 2, embedded := false, tag := "", pkgPath := "", byteOffset := 24 },
    { name := "At", type := 3, offset := 3, embedded := false, tag := "", pkgPath := "", byteOffset := 40 }]
def d112 : TypeDesc := Go.TypeDesc.struct
  #[{ name := "Kind", type := 3, offset := 0, embedded := false, tag := "", pkgPath := "", byteOffset := 0 },
    { name := "Key", type := 9, offset := 1, embedded := false, tag := "", pkgPath := "", byteOffset := 8 },
    { name := "Text", type := 9, offset := 2, embedded := false, tag := "", pkgPath := "", byteOffset := 24 },
    { name := "At", type := 3, offset := 3, embedded := false, tag := "", pkgPath := "", byteOffset := 40 }]
def d113 : TypeDesc := Go.TypeDesc.struct
  #[{ name := "tree",
      type := 109,
      offset := 0,
      embedded := false,
      tag := "",
      pkgPath := "waybill/jsonp",
      byteOffset := 0 }]
def d114 : TypeDesc := Go.TypeDesc.struct
  #[{ name := "tree",
      type := 109,
      offset := 0,
      embedded := false,
      tag := "",
      pkgPath := "waybill/jsonp",
      byteOffset := 0 }]
def d115 : TypeDesc := Go.TypeDesc.slice 118
def d116 : TypeDesc := Go.TypeDesc.struct
  #[{ name := "b", type := 46, offset := 0, embedded := false, tag := "", pkgPath := "waybill/jsonp", byteOffset := 0 },
    { name := "most",
      type := 70,
      offset := 1,
      embedded := false,
      tag := "",
      pkgPath := "waybill/jsonp",
      byteOffset := 24 },
    { name := "doc",
      type := 66,
      offset := 4,
      embedded := false,
      tag := "",
      pkgPath := "waybill/jsonp",
      byteOffset := 48 },
    { name := "stack",
      type := 115,
      offset := 5,
      embedded := false,
      tag := "",
      pkgPath := "waybill/jsonp",
      byteOffset := 56 }]
def d117 : TypeDesc := Go.TypeDesc.struct
  #[{ name := "b", type := 46, offset := 0, embedded := false, tag := "", pkgPath := "waybill/jsonp", byteOffset := 0 },
    { name := "most",
      type := 70,
      offset := 1,
      embedded := false,
      tag := "",
      pkgPath := "waybill/jsonp",
      byteOffset := 24 },
    { name := "doc",
      type := 66,
      offset := 4,
      embedded := false,
      tag := "",
      pkgPath := "waybill/jsonp",
      byteOffset := 48 },
    { name := "stack",
      type := 115,
      offset := 5,
      embedded := false,
      tag := "",
      pkgPath := "waybill/jsonp",
      byteOffset := 56 }]
def d118 : TypeDesc := Go.TypeDesc.pointer 121
def d119 : TypeDesc := Go.TypeDesc.int (Go.IntKind.i64)
def d120 : TypeDesc := Go.TypeDesc.struct
  #[{ name := "id", type := 3, offset := 0, embedded := false, tag := "", pkgPath := "waybill/jsonp", byteOffset := 0 },
    { name := "object",
      type := 4,
      offset := 1,
      embedded := false,
      tag := "",
      pkgPath := "waybill/jsonp",
      byteOffset := 8 },
    { name := "state",
      type := 119,
      offset := 2,
      embedded := false,
      tag := "",
      pkgPath := "waybill/jsonp",
      byteOffset := 16 },
    { name := "key",
      type := 9,
      offset := 3,
      embedded := false,
      tag := "",
      pkgPath := "waybill/jsonp",
      byteOffset := 24 }]
def d121 : TypeDesc := Go.TypeDesc.struct
  #[{ name := "id", type := 3, offset := 0, embedded := false, tag := "", pkgPath := "waybill/jsonp", byteOffset := 0 },
    { name := "object",
      type := 4,
      offset := 1,
      embedded := false,
      tag := "",
      pkgPath := "waybill/jsonp",
      byteOffset := 8 },
    { name := "state",
      type := 119,
      offset := 2,
      embedded := false,
      tag := "",
      pkgPath := "waybill/jsonp",
      byteOffset := 16 },
    { name := "key",
      type := 9,
      offset := 3,
      embedded := false,
      tag := "",
      pkgPath := "waybill/jsonp",
      byteOffset := 24 }]
def d122 : TypeDesc := Go.TypeDesc.struct
  #[{ name := "Kind", type := 3, offset := 0, embedded := false, tag := "", pkgPath := "", byteOffset := 0 },
    { name := "From", type := 3, offset := 1, embedded := false, tag := "", pkgPath := "", byteOffset := 8 },
    { name := "To", type := 3, offset := 2, embedded := false, tag := "", pkgPath := "", byteOffset := 16 }]
def d123 : TypeDesc := Go.TypeDesc.struct
  #[{ name := "Kind", type := 3, offset := 0, embedded := false, tag := "", pkgPath := "", byteOffset := 0 },
    { name := "From", type := 3, offset := 1, embedded := false, tag := "", pkgPath := "", byteOffset := 8 },
    { name := "To", type := 3, offset := 2, embedded := false, tag := "", pkgPath := "", byteOffset := 16 }]
def d124 : TypeDesc := Go.TypeDesc.tuple #[123, 38]
def d125 : TypeDesc := Go.TypeDesc.func #[46, 3] #[123, 38] false
def d126 : TypeDesc := Go.TypeDesc.func #[123] #[38] false
def d127 : TypeDesc := Go.TypeDesc.tuple #[112, 4]
def d128 : TypeDesc := Go.TypeDesc.func #[3] #[112, 4] false
def d129 : TypeDesc := Go.TypeDesc.tuple #[112, 38]
def d130 : TypeDesc := Go.TypeDesc.func #[3, 75] #[112, 38] true
def d131 : TypeDesc := Go.TypeDesc.func #[3] #[75] false
def d132 : TypeDesc := Go.TypeDesc.func #[3, 9] #[3, 38] false
def d133 : TypeDesc := Go.TypeDesc.func #[3, 9, 3, 3, 134] #[27] false
def d134 : TypeDesc := Go.TypeDesc.func #[9] #[38] false
def d135 : TypeDesc := Go.TypeDesc.tuple #[3, 4]
def d136 : TypeDesc := Go.TypeDesc.func #[3, 9, 3] #[3, 4] false
def d137 : TypeDesc := Go.TypeDesc.tuple #[3, 9]
def d138 : TypeDesc := Go.TypeDesc.func #[3, 9] #[3, 9] false
def d139 : TypeDesc := Go.TypeDesc.func #[3, 30] #[30] false
def d140 : TypeDesc := Go.TypeDesc.func #[28, 24] #[3] false
def d141 : TypeDesc := Go.TypeDesc.slice 144
def d142 : TypeDesc := Go.TypeDesc.func #[9] #[9] false
def d143 : TypeDesc := Go.TypeDesc.struct
  #[{ name := "key",
      type := 9,
      offset := 0,
      embedded := false,
      tag := "",
      pkgPath := "waybill/canon",
      byteOffset := 0 },
    { name := "form",
      type := 9,
      offset := 1,
      embedded := false,
      tag := "",
      pkgPath := "waybill/canon",
      byteOffset := 16 }]
def d144 : TypeDesc := Go.TypeDesc.struct
  #[{ name := "key",
      type := 9,
      offset := 0,
      embedded := false,
      tag := "",
      pkgPath := "waybill/canon",
      byteOffset := 0 },
    { name := "form",
      type := 9,
      offset := 1,
      embedded := false,
      tag := "",
      pkgPath := "waybill/canon",
      byteOffset := 16 }]
def d145 : TypeDesc := Go.TypeDesc.func #[141] #[9] false
def d146 : TypeDesc := Go.TypeDesc.func #[9] #[9, 38] false
def d149 : TypeDesc := Go.TypeDesc.pointer 367
def d150 : TypeDesc := Go.TypeDesc.interface #[("Is", 152)]
def d151 : TypeDesc := Go.TypeDesc.tuple #[150, 4]
def d152 : TypeDesc := Go.TypeDesc.func #[38] #[4] false
def d153 : TypeDesc := Go.TypeDesc.interface #[("Unwrap", 154)]
def d154 : TypeDesc := Go.TypeDesc.func #[] #[38] false
def d155 : TypeDesc := Go.TypeDesc.interface #[("Unwrap", 157)]
def d156 : TypeDesc := Go.TypeDesc.slice 38
def d157 : TypeDesc := Go.TypeDesc.func #[] #[156] false
def d158 : TypeDesc := Go.TypeDesc.pointer 5
def d159 : TypeDesc := Go.TypeDesc.tuple #[75, 3]
def d160 : TypeDesc := Go.TypeDesc.func #[46] #[75, 3] false
def d161 : TypeDesc := Go.TypeDesc.func #[162, 162, 3] #[9] false
def d162 : TypeDesc := Go.TypeDesc.int (Go.IntKind.u64)
def d163 : TypeDesc := Go.TypeDesc.func #[] #[101] false
def d164 : TypeDesc := Go.TypeDesc.func #[101] #[] false
def d165 : TypeDesc := Go.TypeDesc.interface #[("As", 167)]
def d166 : TypeDesc := Go.TypeDesc.tuple #[165, 4]
def d167 : TypeDesc := Go.TypeDesc.func #[20] #[4] false
def d168 : TypeDesc := Go.TypeDesc.slice 178
def d169 : TypeDesc := Go.TypeDesc.struct
  #[{ name := "nodes",
      type := 168,
      offset := 0,
      embedded := false,
      tag := "",
      pkgPath := "waybill/arena",
      byteOffset := 0 },
    { name := "most",
      type := 3,
      offset := 1,
      embedded := false,
      tag := "",
      pkgPath := "waybill/arena",
      byteOffset := 24 }]
def d170 : TypeDesc := Go.TypeDesc.struct
  #[{ name := "nodes",
      type := 168,
      offset := 0,
      embedded := false,
      tag := "",
      pkgPath := "waybill/arena",
      byteOffset := 0 },
    { name := "most",
      type := 3,
      offset := 1,
      embedded := false,
      tag := "",
      pkgPath := "waybill/arena",
      byteOffset := 24 }]
def d171 : TypeDesc := Go.TypeDesc.func #[9, 5] #[3] false
def d172 : TypeDesc := Go.TypeDesc.tuple #[3, 3, 38]
def d173 : TypeDesc := Go.TypeDesc.func #[46, 3] #[3, 3, 38] false
def d174 : TypeDesc := Go.TypeDesc.func #[] #[118] false
def d175 : TypeDesc := Go.TypeDesc.func #[123] #[4] false
def d176 : TypeDesc := Go.TypeDesc.func #[3] #[4] false
def d177 : TypeDesc := Go.TypeDesc.struct
  #[{ name := "value",
      type := 112,
      offset := 0,
      embedded := false,
      tag := "",
      pkgPath := "waybill/arena",
      byteOffset := 0 },
    { name := "up",
      type := 3,
      offset := 4,
      embedded := false,
      tag := "",
      pkgPath := "waybill/arena",
      byteOffset := 48 },
    { name := "first",
      type := 3,
      offset := 5,
      embedded := false,
      tag := "",
      pkgPath := "waybill/arena",
      byteOffset := 56 },
    { name := "last",
      type := 3,
      offset := 6,
      embedded := false,
      tag := "",
      pkgPath := "waybill/arena",
      byteOffset := 64 },
    { name := "next",
      type := 3,
      offset := 7,
      embedded := false,
      tag := "",
      pkgPath := "waybill/arena",
      byteOffset := 72 },
    { name := "deep",
      type := 3,
      offset := 8,
      embedded := false,
      tag := "",
      pkgPath := "waybill/arena",
      byteOffset := 80 },
    { name := "count",
      type := 3,
      offset := 9,
      embedded := false,
      tag := "",
      pkgPath := "waybill/arena",
      byteOffset := 88 }]
def d178 : TypeDesc := Go.TypeDesc.struct
  #[{ name := "value",
      type := 112,
      offset := 0,
      embedded := false,
      tag := "",
      pkgPath := "waybill/arena",
      byteOffset := 0 },
    { name := "up",
      type := 3,
      offset := 4,
      embedded := false,
      tag := "",
      pkgPath := "waybill/arena",
      byteOffset := 48 },
    { name := "first",
      type := 3,
      offset := 5,
      embedded := false,
      tag := "",
      pkgPath := "waybill/arena",
      byteOffset := 56 },
    { name := "last",
      type := 3,
      offset := 6,
      embedded := false,
      tag := "",
      pkgPath := "waybill/arena",
      byteOffset := 64 },
    { name := "next",
      type := 3,
      offset := 7,
      embedded := false,
      tag := "",
      pkgPath := "waybill/arena",
      byteOffset := 72 },
    { name := "deep",
      type := 3,
      offset := 8,
      embedded := false,
      tag := "",
      pkgPath := "waybill/arena",
      byteOffset := 80 },
    { name := "count",
      type := 3,
      offset := 9,
      embedded := false,
      tag := "",
      pkgPath := "waybill/arena",
      byteOffset := 88 }]
def d179 : TypeDesc := Go.TypeDesc.func #[3] #[9] false
def d180 : TypeDesc := Go.TypeDesc.func #[3] #[9, 38] false
def d181 : TypeDesc := Go.TypeDesc.struct
  #[{ name := "Kind", type := 3, offset := 0, embedded := false, tag := "", pkgPath := "", byteOffset := 0 },
    { name := "Text", type := 9, offset := 1, embedded := false, tag := "", pkgPath := "", byteOffset := 8 }]
def d182 : TypeDesc := Go.TypeDesc.struct
  #[{ name := "Kind", type := 3, offset := 0, embedded := false, tag := "", pkgPath := "", byteOffset := 0 },
    { name := "Text", type := 9, offset := 1, embedded := false, tag := "", pkgPath := "", byteOffset := 8 }]
def d183 : TypeDesc := Go.TypeDesc.struct
  #[{ name := "Scheme", type := 9, offset := 0, embedded := false, tag := "", pkgPath := "", byteOffset := 0 },
    { name := "Host", type := 182, offset := 1, embedded := false, tag := "", pkgPath := "", byteOffset := 16 },
    { name := "Port", type := 3, offset := 3, embedded := false, tag := "", pkgPath := "", byteOffset := 40 },
    { name := "Path", type := 9, offset := 4, embedded := false, tag := "", pkgPath := "", byteOffset := 48 },
    { name := "Query", type := 9, offset := 5, embedded := false, tag := "", pkgPath := "", byteOffset := 64 },
    { name := "Fragment", type := 9, offset := 6, embedded := false, tag := "", pkgPath := "", byteOffset := 80 },
    { name := "HasQuery", type := 4, offset := 7, embedded := false, tag := "", pkgPath := "", byteOffset := 96 },
    { name := "HasFrag", type := 4, offset := 8, embedded := false, tag := "", pkgPath := "", byteOffset := 97 }]
def d184 : TypeDesc := Go.TypeDesc.struct
  #[{ name := "Scheme", type := 9, offset := 0, embedded := false, tag := "", pkgPath := "", byteOffset := 0 },
    { name := "Host", type := 182, offset := 1, embedded := false, tag := "", pkgPath := "", byteOffset := 16 },
    { name := "Port", type := 3, offset := 3, embedded := false, tag := "", pkgPath := "", byteOffset := 40 },
    { name := "Path", type := 9, offset := 4, embedded := false, tag := "", pkgPath := "", byteOffset := 48 },
    { name := "Query", type := 9, offset := 5, embedded := false, tag := "", pkgPath := "", byteOffset := 64 },
    { name := "Fragment", type := 9, offset := 6, embedded := false, tag := "", pkgPath := "", byteOffset := 80 },
    { name := "HasQuery", type := 4, offset := 7, embedded := false, tag := "", pkgPath := "", byteOffset := 96 },
    { name := "HasFrag", type := 4, offset := 8, embedded := false, tag := "", pkgPath := "", byteOffset := 97 }]
def d185 : TypeDesc := Go.TypeDesc.tuple #[184, 38]
def d186 : TypeDesc := Go.TypeDesc.func #[9] #[184, 38] false
def d187 : TypeDesc := Go.TypeDesc.func #[184] #[9] false
def d188 : TypeDesc := Go.TypeDesc.tuple #[24, 38]
def d189 : TypeDesc := Go.TypeDesc.func #[9] #[24, 38] false
def d190 : TypeDesc := Go.TypeDesc.func #[46] #[38] false
def d191 : TypeDesc := Go.TypeDesc.func #[141, 193] #[] false
def d192 : TypeDesc := Go.TypeDesc.func #[9, 9] #[3] false
def d193 : TypeDesc := Go.TypeDesc.func #[144, 144] #[3] false
def d194 : TypeDesc := Go.TypeDesc.func #[162, 3] #[9] false
def d195 : TypeDesc := Go.TypeDesc.func #[5] #[38] false
def d196 : TypeDesc := Go.TypeDesc.func #[98] #[98] false
def d197 : TypeDesc := Go.TypeDesc.func #[3] #[46] false
def d198 : TypeDesc := Go.TypeDesc.tuple #[3, 3]
def d199 : TypeDesc := Go.TypeDesc.func #[46, 3] #[3, 3] false
def d200 : TypeDesc := Go.TypeDesc.func #[46, 3, 91] #[3, 38] false
def d201 : TypeDesc := Go.TypeDesc.func #[46, 3] #[3, 38] false
def d202 : TypeDesc := Go.TypeDesc.struct
  #[{ name := "text",
      type := 9,
      offset := 0,
      embedded := false,
      tag := "",
      pkgPath := "waybill/scan",
      byteOffset := 0 },
    { name := "kind",
      type := 3,
      offset := 1,
      embedded := false,
      tag := "",
      pkgPath := "waybill/scan",
      byteOffset := 16 }]
def d203 : TypeDesc := Go.TypeDesc.array 3 202
def d204 : TypeDesc := Go.TypeDesc.func #[46, 3, 9] #[3, 38] false
def d205 : TypeDesc := Go.TypeDesc.func #[123] #[3, 4] false
def d206 : TypeDesc := Go.TypeDesc.func #[46, 123] #[9, 38] false
def d207 : TypeDesc := Go.TypeDesc.func #[3, 112] #[3, 38] false
def d208 : TypeDesc := Go.TypeDesc.struct
  #[{ name := "authority",
      type := 9,
      offset := 0,
      embedded := false,
      tag := "",
      pkgPath := "waybill/url",
      byteOffset := 0 },
    { name := "path",
      type := 9,
      offset := 1,
      embedded := false,
      tag := "",
      pkgPath := "waybill/url",
      byteOffset := 16 },
    { name := "query",
      type := 9,
      offset := 2,
      embedded := false,
      tag := "",
      pkgPath := "waybill/url",
      byteOffset := 32 },
    { name := "fragment",
      type := 9,
      offset := 3,
      embedded := false,
      tag := "",
      pkgPath := "waybill/url",
      byteOffset := 48 },
    { name := "hasAuthority",
      type := 4,
      offset := 4,
      embedded := false,
      tag := "",
      pkgPath := "waybill/url",
      byteOffset := 64 },
    { name := "hasQuery",
      type := 4,
      offset := 5,
      embedded := false,
      tag := "",
      pkgPath := "waybill/url",
      byteOffset := 65 },
    { name := "hasFragment",
      type := 4,
      offset := 6,
      embedded := false,
      tag := "",
      pkgPath := "waybill/url",
      byteOffset := 66 },
    { name := "authorityAt",
      type := 3,
      offset := 7,
      embedded := false,
      tag := "",
      pkgPath := "waybill/url",
      byteOffset := 72 },
    { name := "pathAt",
      type := 3,
      offset := 8,
      embedded := false,
      tag := "",
      pkgPath := "waybill/url",
      byteOffset := 80 },
    { name := "queryAt",
      type := 3,
      offset := 9,
      embedded := false,
      tag := "",
      pkgPath := "waybill/url",
      byteOffset := 88 },
    { name := "fragmentAt",
      type := 3,
      offset := 10,
      embedded := false,
      tag := "",
      pkgPath := "waybill/url",
      byteOffset := 96 }]
def d209 : TypeDesc := Go.TypeDesc.struct
  #[{ name := "authority",
      type := 9,
      offset := 0,
      embedded := false,
      tag := "",
      pkgPath := "waybill/url",
      byteOffset := 0 },
    { name := "path",
      type := 9,
      offset := 1,
      embedded := false,
      tag := "",
      pkgPath := "waybill/url",
      byteOffset := 16 },
    { name := "query",
      type := 9,
      offset := 2,
      embedded := false,
      tag := "",
      pkgPath := "waybill/url",
      byteOffset := 32 },
    { name := "fragment",
      type := 9,
      offset := 3,
      embedded := false,
      tag := "",
      pkgPath := "waybill/url",
      byteOffset := 48 },
    { name := "hasAuthority",
      type := 4,
      offset := 4,
      embedded := false,
      tag := "",
      pkgPath := "waybill/url",
      byteOffset := 64 },
    { name := "hasQuery",
      type := 4,
      offset := 5,
      embedded := false,
      tag := "",
      pkgPath := "waybill/url",
      byteOffset := 65 },
    { name := "hasFragment",
      type := 4,
      offset := 6,
      embedded := false,
      tag := "",
      pkgPath := "waybill/url",
      byteOffset := 66 },
    { name := "authorityAt",
      type := 3,
      offset := 7,
      embedded := false,
      tag := "",
      pkgPath := "waybill/url",
      byteOffset := 72 },
    { name := "pathAt",
      type := 3,
      offset := 8,
      embedded := false,
      tag := "",
      pkgPath := "waybill/url",
      byteOffset := 80 },
    { name := "queryAt",
      type := 3,
      offset := 9,
      embedded := false,
      tag := "",
      pkgPath := "waybill/url",
      byteOffset := 88 },
    { name := "fragmentAt",
      type := 3,
      offset := 10,
      embedded := false,
      tag := "",
      pkgPath := "waybill/url",
      byteOffset := 96 }]
def d210 : TypeDesc := Go.TypeDesc.func #[9, 3] #[209] false
def d211 : TypeDesc := Go.TypeDesc.func #[9] #[3] false
def d212 : TypeDesc := Go.TypeDesc.func #[213, 209] #[38] false
def d213 : TypeDesc := Go.TypeDesc.pointer 184
def d214 : TypeDesc := Go.TypeDesc.func #[9, 3] #[9, 38] false
def d215 : TypeDesc := Go.TypeDesc.func #[9, 3, 217, 4] #[38] false
def d216 : TypeDesc := Go.TypeDesc.func #[5] #[4] false
def d217 : TypeDesc := Go.TypeDesc.func #[3, 5] #[4] false
def d218 : TypeDesc := Go.TypeDesc.tuple #[162, 38]
def d219 : TypeDesc := Go.TypeDesc.func #[9, 162] #[162, 38] false
def d220 : TypeDesc := Go.TypeDesc.func #[46] #[75, 38] false
def d221 : TypeDesc := Go.TypeDesc.func #[141, 3, 3, 3, 193] #[] false
def d222 : TypeDesc := Go.TypeDesc.func #[223] #[3] false
def d223 : TypeDesc := Go.TypeDesc.int (Go.IntKind.u64)
def d224 : TypeDesc := Go.TypeDesc.func #[46, 3, 3] #[3] false
def d225 : TypeDesc := Go.TypeDesc.func #[46, 3, 9] #[4] false
def d226 : TypeDesc := Go.TypeDesc.tuple #[46, 38]
def d227 : TypeDesc := Go.TypeDesc.func #[75] #[46, 38] false
def d228 : TypeDesc := Go.TypeDesc.pointer 178
def d229 : TypeDesc := Go.TypeDesc.tuple #[9, 9, 4]
def d230 : TypeDesc := Go.TypeDesc.func #[9, 9] #[9, 9, 4] false
def d231 : TypeDesc := Go.TypeDesc.func #[9, 9] #[4] false
def d232 : TypeDesc := Go.TypeDesc.tuple #[9, 9]
def d233 : TypeDesc := Go.TypeDesc.func #[9, 9] #[9, 9] false
def d234 : TypeDesc := Go.TypeDesc.tuple #[182, 38]
def d235 : TypeDesc := Go.TypeDesc.func #[9] #[182, 38] false
def d236 : TypeDesc := Go.TypeDesc.func #[182] #[9] false
def d237 : TypeDesc := Go.TypeDesc.func #[162] #[9] false
def d238 : TypeDesc := Go.TypeDesc.func #[9, 162, 162] #[162, 38] false
def d239 : TypeDesc := Go.TypeDesc.func #[141, 3, 3, 193] #[] false
def d240 : TypeDesc := Go.TypeDesc.int (Go.IntKind.i64)
def d241 : TypeDesc := Go.TypeDesc.tuple #[3, 240]
def d242 : TypeDesc := Go.TypeDesc.func #[141, 3, 3, 193] #[3, 240] false
def d243 : TypeDesc := Go.TypeDesc.func #[141, 3, 3, 193] #[4] false
def d244 : TypeDesc := Go.TypeDesc.func #[141, 3, 3, 3, 193] #[3] false
def d245 : TypeDesc := Go.TypeDesc.func #[141, 3, 3, 3, 193] #[3, 4] false
def d246 : TypeDesc := Go.TypeDesc.func #[247] #[3] false
def d247 : TypeDesc := Go.TypeDesc.int (Go.IntKind.u32)
def d248 : TypeDesc := Go.TypeDesc.func #[162] #[3] false
def d249 : TypeDesc := Go.TypeDesc.array 64 5
def d250 : TypeDesc := Go.TypeDesc.func #[3] #[3] false
def d251 : TypeDesc := Go.TypeDesc.tuple #[5, 4]
def d252 : TypeDesc := Go.TypeDesc.func #[5] #[5, 4] false
def d253 : TypeDesc := Go.TypeDesc.tuple #[21, 3]
def d254 : TypeDesc := Go.TypeDesc.func #[46] #[21, 3] false
def d255 : TypeDesc := Go.TypeDesc.func #[46, 21] #[46] false
def d256 : TypeDesc := Go.TypeDesc.func #[9] #[46, 38] false
def d257 : TypeDesc := Go.TypeDesc.func #[3, 38] #[38] false
def d258 : TypeDesc := Go.TypeDesc.array 4 5
def d259 : TypeDesc := Go.TypeDesc.array 4 5
def d260 : TypeDesc := Go.TypeDesc.tuple #[259, 38]
def d261 : TypeDesc := Go.TypeDesc.func #[9] #[259, 38] false
def d262 : TypeDesc := Go.TypeDesc.func #[259] #[9] false
def d263 : TypeDesc := Go.TypeDesc.func #[9, 265] #[38] false
def d264 : TypeDesc := Go.TypeDesc.func #[5] #[9] false
def d265 : TypeDesc := Go.TypeDesc.func #[5, 4] #[] false
def d266 : TypeDesc := Go.TypeDesc.func #[5] #[162] false
def d267 : TypeDesc := Go.TypeDesc.tuple #[162, 162]
def d268 : TypeDesc := Go.TypeDesc.func #[162, 162] #[162, 162] false
def d269 : TypeDesc := Go.TypeDesc.func #[162, 162, 162] #[162, 162] false
def d270 : TypeDesc := Go.TypeDesc.int (Go.IntKind.u64)
def d271 : TypeDesc := Go.TypeDesc.func #[3] #[223] false
def d272 : TypeDesc := Go.TypeDesc.func #[] #[162] false
def d273 : TypeDesc := Go.TypeDesc.func #[141, 3, 274, 193] #[3] false
def d274 : TypeDesc := Go.TypeDesc.pointer 3
def d275 : TypeDesc := Go.TypeDesc.func #[141, 3, 3, 3, 274, 193] #[3] false
def d276 : TypeDesc := Go.TypeDesc.func #[3, 3] #[3, 4] false
def d277 : TypeDesc := Go.TypeDesc.func #[9, 9] #[9, 4] false
def d278 : TypeDesc := Go.TypeDesc.array 16 5
def d279 : TypeDesc := Go.TypeDesc.array 16 5
def d280 : TypeDesc := Go.TypeDesc.tuple #[279, 38]
def d281 : TypeDesc := Go.TypeDesc.func #[9] #[279, 38] false
def d282 : TypeDesc := Go.TypeDesc.func #[279] #[9] false
def d283 : TypeDesc := Go.TypeDesc.func #[9, 9] #[9] false
def d284 : TypeDesc := Go.TypeDesc.tuple #[27, 38]
def d285 : TypeDesc := Go.TypeDesc.func #[9, 5, 3] #[27, 38] false
def d286 : TypeDesc := Go.TypeDesc.func #[38, 3] #[38] false
def d287 : TypeDesc := Go.TypeDesc.func #[9, 3] #[38] false
def d288 : TypeDesc := Go.TypeDesc.tuple #[162, 4]
def d289 : TypeDesc := Go.TypeDesc.func #[9] #[162, 4] false
def d290 : TypeDesc := Go.TypeDesc.func #[247] #[259] false
def d291 : TypeDesc := Go.TypeDesc.func #[9, 3] #[5, 4] false
def d292 : TypeDesc := Go.TypeDesc.pointer 270
def d293 : TypeDesc := Go.TypeDesc.func #[141, 3, 3, 274, 193] #[3, 3] false
def d294 : TypeDesc := Go.TypeDesc.array 256 5
def d295 : TypeDesc := Go.TypeDesc.struct
  #[{ name := "lo", type := 5, offset := 0, embedded := false, tag := "", pkgPath := "unicode/utf8", byteOffset := 0 },
    { name := "hi", type := 5, offset := 1, embedded := false, tag := "", pkgPath := "unicode/utf8", byteOffset := 1 }]
def d296 : TypeDesc := Go.TypeDesc.struct
  #[{ name := "lo", type := 5, offset := 0, embedded := false, tag := "", pkgPath := "unicode/utf8", byteOffset := 0 },
    { name := "hi", type := 5, offset := 1, embedded := false, tag := "", pkgPath := "unicode/utf8", byteOffset := 1 }]
def d297 : TypeDesc := Go.TypeDesc.array 16 296
def d298 : TypeDesc := Go.TypeDesc.slice 301
def d299 : TypeDesc := Go.TypeDesc.tuple #[298, 4]
def d300 : TypeDesc := Go.TypeDesc.func #[9, 4] #[298, 4] false
def d301 : TypeDesc := Go.TypeDesc.int (Go.IntKind.u16)
def d302 : TypeDesc := Go.TypeDesc.array 8 301
def d303 : TypeDesc := Go.TypeDesc.func #[302] #[279] false
def d304 : TypeDesc := Go.TypeDesc.func #[279] #[302] false
def d305 : TypeDesc := Go.TypeDesc.func #[302] #[3, 3] false
def d306 : TypeDesc := Go.TypeDesc.func #[298] #[9] false
def d307 : TypeDesc := Go.TypeDesc.func #[75] #[4] false
def d308 : TypeDesc := Go.TypeDesc.func #[3] #[46, 38] false
def d309 : TypeDesc := Go.TypeDesc.func #[75] #[9, 38] false
def d310 : TypeDesc := Go.TypeDesc.tuple #[9, 3, 9]
def d311 : TypeDesc := Go.TypeDesc.func #[9] #[9, 3, 9] false
def d312 : TypeDesc := Go.TypeDesc.tuple #[247, 247]
def d313 : TypeDesc := Go.TypeDesc.func #[9] #[247, 247] false
def d314 : TypeDesc := Go.TypeDesc.func #[9, 9] #[27] false
def d315 : TypeDesc := Go.TypeDesc.tuple #[301, 4]
def d316 : TypeDesc := Go.TypeDesc.func #[9] #[301, 4] false
def d317 : TypeDesc := Go.TypeDesc.func #[259] #[247] false
def d318 : TypeDesc := Go.TypeDesc.tuple #[75, 4]
def d319 : TypeDesc := Go.TypeDesc.func #[9] #[75, 4] false
def d320 : TypeDesc := Go.TypeDesc.struct
  #[{ name := "from",
      type := 3,
      offset := 0,
      embedded := false,
      tag := "",
      pkgPath := "waybill/label",
      byteOffset := 0 },
    { name := "to", type := 3, offset := 1, embedded := false, tag := "", pkgPath := "waybill/label", byteOffset := 8 }]
def d321 : TypeDesc := Go.TypeDesc.struct
  #[{ name := "from",
      type := 3,
      offset := 0,
      embedded := false,
      tag := "",
      pkgPath := "waybill/label",
      byteOffset := 0 },
    { name := "to", type := 3, offset := 1, embedded := false, tag := "", pkgPath := "waybill/label", byteOffset := 8 }]
def d322 : TypeDesc := Go.TypeDesc.array 7 321
def d323 : TypeDesc := Go.TypeDesc.func #[] #[3] false
def d324 : TypeDesc := Go.TypeDesc.func #[75] #[75] false
def d325 : TypeDesc := Go.TypeDesc.func #[75] #[] false
def d326 : TypeDesc := Go.TypeDesc.func #[88, 3, 3] #[] false
def d327 : TypeDesc := Go.TypeDesc.func #[3, 3, 4] #[3] false
def d328 : TypeDesc := Go.TypeDesc.func #[9, 9, 3, 3] #[27] false
def d329 : TypeDesc := Go.TypeDesc.func #[9] #[75, 38] false
def d330 : TypeDesc := Go.TypeDesc.func #[75, 3, 3, 3] #[] false
def d331 : TypeDesc := Go.TypeDesc.func #[3, 3] #[3] false
def d332 : TypeDesc := Go.TypeDesc.func #[3] #[5] false
def d333 : TypeDesc := Go.TypeDesc.func #[9, 3] #[27] false
def d334 : TypeDesc := Go.TypeDesc.pointer 336
def d335 : TypeDesc := Go.TypeDesc.struct
  #[{ name := "s", type := 9, offset := 0, embedded := false, tag := "", pkgPath := "waybill/puny", byteOffset := 0 },
    { name := "at", type := 3, offset := 1, embedded := false, tag := "", pkgPath := "waybill/puny", byteOffset := 16 },
    { name := "bias",
      type := 3,
      offset := 2,
      embedded := false,
      tag := "",
      pkgPath := "waybill/puny",
      byteOffset := 24 }]
def d336 : TypeDesc := Go.TypeDesc.struct
  #[{ name := "s", type := 9, offset := 0, embedded := false, tag := "", pkgPath := "waybill/puny", byteOffset := 0 },
    { name := "at", type := 3, offset := 1, embedded := false, tag := "", pkgPath := "waybill/puny", byteOffset := 16 },
    { name := "bias",
      type := 3,
      offset := 2,
      embedded := false,
      tag := "",
      pkgPath := "waybill/puny",
      byteOffset := 24 }]
def d337 : TypeDesc := Go.TypeDesc.func #[] #[3, 38] false
def d338 : TypeDesc := Go.TypeDesc.func #[75, 3, 75] #[75] true
def d339 : TypeDesc := Go.TypeDesc.func #[75, 3, 3] #[] false
def d340 : TypeDesc := Go.TypeDesc.func #[75, 3, 3] #[3, 240] false
def d341 : TypeDesc := Go.TypeDesc.func #[75, 3, 3] #[4] false
def d342 : TypeDesc := Go.TypeDesc.func #[75, 3, 3, 3] #[3] false
def d343 : TypeDesc := Go.TypeDesc.func #[75, 3, 3, 3] #[3, 4] false
def d344 : TypeDesc := Go.TypeDesc.func #[9] #[21, 3] false
def d345 : TypeDesc := Go.TypeDesc.func #[5] #[3, 4] false
def d346 : TypeDesc := Go.TypeDesc.func #[75, 75] #[4] false
def d347 : TypeDesc := Go.TypeDesc.func #[75, 3] #[] false
def d348 : TypeDesc := Go.TypeDesc.func #[75, 3, 274] #[3] false
def d349 : TypeDesc := Go.TypeDesc.func #[75, 3, 3, 3, 274] #[3] false
def d350 : TypeDesc := Go.TypeDesc.func #[75, 3, 3, 274] #[3, 3] false
def d353 : TypeDesc := Go.TypeDesc.array 0 16
def d356 : TypeDesc := Go.TypeDesc.func #[] #[17] false
def d357 : TypeDesc := Go.TypeDesc.int (Go.IntKind.u8)
def d358 : TypeDesc := Go.TypeDesc.func #[98, 98] #[4] false
def d359 : TypeDesc := Go.TypeDesc.int (Go.IntKind.i32)
def d360 : TypeDesc := Go.TypeDesc.int (Go.IntKind.i32)
def d363 : TypeDesc := Go.TypeDesc.tuple #[55, 4]
def d364 : TypeDesc := Go.TypeDesc.func #[] #[12] false
def d365 : TypeDesc := Go.TypeDesc.func #[] #[368] false
def d368 : TypeDesc := Go.TypeDesc.pointer 371
def d369 : TypeDesc := Go.TypeDesc.func #[] #[372] false
def d372 : TypeDesc := Go.TypeDesc.slice 375
def d373 : TypeDesc := Go.TypeDesc.int (Go.IntKind.i32)
def d376 : TypeDesc := Go.TypeDesc.pointer 38

noncomputable def fnT : Tr Func := (.node 154 Tryz.f154 (.node 78 Tryz.f78 (.node 38 Tryz.f38 (.node 19 Tryz.f19 (.node 10 Tryz.f10 (.node 6 Tryz.f6 (.node 4 Tryz.f4 (.node 3 Tryz.f3 (.node 2 Tryz.f2 .nil .nil) .nil) (.node 5 Tryz.f5 .nil .nil)) (.node 8 Tryz.f8 (.node 7 Tryz.f7 .nil .nil) (.node 9 Tryz.f9 .nil .nil))) (.node 15 Tryz.f15 (.node 13 Tryz.f13 (.node 12 Tryz.f12 (.node 11 Tryz.f11 .nil .nil) .nil) (.node 14 Tryz.f14 .nil .nil)) (.node 17 Tryz.f17 (.node 16 Tryz.f16 .nil .nil) (.node 18 Tryz.f18 .nil .nil)))) (.node 28 Tryz.f28 (.node 24 Tryz.f24 (.node 22 Tryz.f22 (.node 21 Tryz.f21 (.node 20 Tryz.f20 .nil .nil) .nil) (.node 23 Tryz.f23 .nil .nil)) (.node 26 Tryz.f26 (.node 25 Tryz.f25 .nil .nil) (.node 27 Tryz.f27 .nil .nil))) (.node 34 Tryz.f34 (.node 31 Tryz.f31 (.node 30 Tryz.f30 (.node 29 Tryz.f29 .nil .nil) .nil) (.node 33 Tryz.f33 .nil .nil)) (.node 36 Tryz.f36 (.node 35 Tryz.f35 .nil .nil) (.node 37 Tryz.f37 .nil .nil))))) (.node 60 Tryz.f60 (.node 48 Tryz.f48 (.node 43 Tryz.f43 (.node 41 Tryz.f41 (.node 40 Tryz.f40 (.node 39 Tryz.f39 .nil .nil) .nil) (.node 42 Tryz.f42 .nil .nil)) (.node 45 Tryz.f45 (.node 44 Tryz.f44 .nil .nil) (.node 47 Tryz.f47 .nil .nil))) (.node 53 Tryz.f53 (.node 51 Tryz.f51 (.node 50 Tryz.f50 (.node 49 Tryz.f49 .nil .nil) .nil) (.node 52 Tryz.f52 .nil .nil)) (.node 58 Tryz.f58 (.node 57 Tryz.f57 .nil .nil) (.node 59 Tryz.f59 .nil .nil)))) (.node 69 Tryz.f69 (.node 65 Tryz.f65 (.node 63 Tryz.f63 (.node 62 Tryz.f62 (.node 61 Tryz.f61 .nil .nil) .nil) (.node 64 Tryz.f64 .nil .nil)) (.node 67 Tryz.f67 (.node 66 Tryz.f66 .nil .nil) (.node 68 Tryz.f68 .nil .nil))) (.node 74 Tryz.f74 (.node 72 Tryz.f72 (.node 71 Tryz.f71 (.node 70 Tryz.f70 .nil .nil) .nil) (.node 73 Tryz.f73 .nil .nil)) (.node 76 Tryz.f76 (.node 75 Tryz.f75 .nil .nil) (.node 77 Tryz.f77 .nil .nil)))))) (.node 118 Tryz.f118 (.node 98 Tryz.f98 (.node 89 Tryz.f89 (.node 85 Tryz.f85 (.node 81 Tryz.f81 (.node 80 Tryz.f80 (.node 79 Tryz.f79 .nil .nil) .nil) (.node 82 Tryz.f82 .nil .nil)) (.node 87 Tryz.f87 (.node 86 Tryz.f86 .nil .nil) (.node 88 Tryz.f88 .nil .nil))) (.node 94 Tryz.f94 (.node 92 Tryz.f92 (.node 91 Tryz.f91 (.node 90 Tryz.f90 .nil .nil) .nil) (.node 93 Tryz.f93 .nil .nil)) (.node 96 Tryz.f96 (.node 95 Tryz.f95 .nil .nil) (.node 97 Tryz.f97 .nil .nil)))) (.node 107 Tryz.f107 (.node 103 Tryz.f103 (.node 101 Tryz.f101 (.node 100 Tryz.f100 (.node 99 Tryz.f99 .nil .nil) .nil) (.node 102 Tryz.f102 .nil .nil)) (.node 105 Tryz.f105 (.node 104 Tryz.f104 .nil .nil) (.node 106 Tryz.f106 .nil .nil))) (.node 114 Tryz.f114 (.node 110 Tryz.f110 (.node 109 Tryz.f109 (.node 108 Tryz.f108 .nil .nil) .nil) (.node 113 Tryz.f113 .nil .nil)) (.node 116 Tryz.f116 (.node 115 Tryz.f115 .nil .nil) (.node 117 Tryz.f117 .nil .nil))))) (.node 136 Tryz.f136 (.node 127 Tryz.f127 (.node 123 Tryz.f123 (.node 121 Tryz.f121 (.node 120 Tryz.f120 (.node 119 Tryz.f119 .nil .nil) .nil) (.node 122 Tryz.f122 .nil .nil)) (.node 125 Tryz.f125 (.node 124 Tryz.f124 .nil .nil) (.node 126 Tryz.f126 .nil .nil))) (.node 132 Tryz.f132 (.node 130 Tryz.f130 (.node 129 Tryz.f129 (.node 128 Tryz.f128 .nil .nil) .nil) (.node 131 Tryz.f131 .nil .nil)) (.node 134 Tryz.f134 (.node 133 Tryz.f133 .nil .nil) (.node 135 Tryz.f135 .nil .nil)))) (.node 146 Tryz.f146 (.node 141 Tryz.f141 (.node 139 Tryz.f139 (.node 138 Tryz.f138 (.node 137 Tryz.f137 .nil .nil) .nil) (.node 140 Tryz.f140 .nil .nil)) (.node 143 Tryz.f143 (.node 142 Tryz.f142 .nil .nil) (.node 145 Tryz.f145 .nil .nil))) (.node 150 Tryz.f150 (.node 148 Tryz.f148 (.node 147 Tryz.f147 .nil .nil) (.node 149 Tryz.f149 .nil .nil)) (.node 152 Tryz.f152 (.node 151 Tryz.f151 .nil .nil) (.node 153 Tryz.f153 .nil .nil))))))) (.node 228 Tryz.f228 (.node 191 Tryz.f191 (.node 172 Tryz.f172 (.node 163 Tryz.f163 (.node 159 Tryz.f159 (.node 157 Tryz.f157 (.node 156 Tryz.f156 (.node 155 Tryz.f155 .nil .nil) .nil) (.node 158 Tryz.f158 .nil .nil)) (.node 161 Tryz.f161 (.node 160 Tryz.f160 .nil .nil) (.node 162 Tryz.f162 .nil .nil))) (.node 168 Tryz.f168 (.node 166 Tryz.f166 (.node 165 Tryz.f165 (.node 164 Tryz.f164 .nil .nil) .nil) (.node 167 Tryz.f167 .nil .nil)) (.node 170 Tryz.f170 (.node 169 Tryz.f169 .nil .nil) (.node 171 Tryz.f171 .nil .nil)))) (.node 182 Tryz.f182 (.node 178 Tryz.f178 (.node 175 Tryz.f175 (.node 174 Tryz.f174 (.node 173 Tryz.f173 .nil .nil) .nil) (.node 176 Tryz.f176 .nil .nil)) (.node 180 Tryz.f180 (.node 179 Tryz.f179 .nil .nil) (.node 181 Tryz.f181 .nil .nil))) (.node 187 Tryz.f187 (.node 185 Tryz.f185 (.node 184 Tryz.f184 (.node 183 Tryz.f183 .nil .nil) .nil) (.node 186 Tryz.f186 .nil .nil)) (.node 189 Tryz.f189 (.node 188 Tryz.f188 .nil .nil) (.node 190 Tryz.f190 .nil .nil))))) (.node 210 Tryz.f210 (.node 200 Tryz.f200 (.node 196 Tryz.f196 (.node 194 Tryz.f194 (.node 193 Tryz.f193 (.node 192 Tryz.f192 .nil .nil) .nil) (.node 195 Tryz.f195 .nil .nil)) (.node 198 Tryz.f198 (.node 197 Tryz.f197 .nil .nil) (.node 199 Tryz.f199 .nil .nil))) (.node 206 Tryz.f206 (.node 204 Tryz.f204 (.node 203 Tryz.f203 (.node 201 Tryz.f201 .nil .nil) .nil) (.node 205 Tryz.f205 .nil .nil)) (.node 208 Tryz.f208 (.node 207 Tryz.f207 .nil .nil) (.node 209 Tryz.f209 .nil .nil)))) (.node 219 Tryz.f219 (.node 215 Tryz.f215 (.node 213 Tryz.f213 (.node 212 Tryz.f212 (.node 211 Tryz.f211 .nil .nil) .nil) (.node 214 Tryz.f214 .nil .nil)) (.node 217 Tryz.f217 (.node 216 Tryz.f216 .nil .nil) (.node 218 Tryz.f218 .nil .nil))) (.node 224 Tryz.f224 (.node 222 Tryz.f222 (.node 221 Tryz.f221 (.node 220 Tryz.f220 .nil .nil) .nil) (.node 223 Tryz.f223 .nil .nil)) (.node 226 Tryz.f226 (.node 225 Tryz.f225 .nil .nil) (.node 227 Tryz.f227 .nil .nil)))))) (.node 265 Tryz.f265 (.node 247 Tryz.f247 (.node 238 Tryz.f238 (.node 234 Tryz.f234 (.node 232 Tryz.f232 (.node 231 Tryz.f231 (.node 229 Tryz.f229 .nil .nil) .nil) (.node 233 Tryz.f233 .nil .nil)) (.node 236 Tryz.f236 (.node 235 Tryz.f235 .nil .nil) (.node 237 Tryz.f237 .nil .nil))) (.node 243 Tryz.f243 (.node 241 Tryz.f241 (.node 240 Tryz.f240 (.node 239 Tryz.f239 .nil .nil) .nil) (.node 242 Tryz.f242 .nil .nil)) (.node 245 Tryz.f245 (.node 244 Tryz.f244 .nil .nil) (.node 246 Tryz.f246 .nil .nil)))) (.node 256 Tryz.f256 (.node 252 Tryz.f252 (.node 250 Tryz.f250 (.node 249 Tryz.f249 (.node 248 Tryz.f248 .nil .nil) .nil) (.node 251 Tryz.f251 .nil .nil)) (.node 254 Tryz.f254 (.node 253 Tryz.f253 .nil .nil) (.node 255 Tryz.f255 .nil .nil))) (.node 261 Tryz.f261 (.node 259 Tryz.f259 (.node 258 Tryz.f258 (.node 257 Tryz.f257 .nil .nil) .nil) (.node 260 Tryz.f260 .nil .nil)) (.node 263 Tryz.f263 (.node 262 Tryz.f262 .nil .nil) (.node 264 Tryz.f264 .nil .nil))))) (.node 283 Tryz.f283 (.node 274 Tryz.f274 (.node 270 Tryz.f270 (.node 268 Tryz.f268 (.node 267 Tryz.f267 (.node 266 Tryz.f266 .nil .nil) .nil) (.node 269 Tryz.f269 .nil .nil)) (.node 272 Tryz.f272 (.node 271 Tryz.f271 .nil .nil) (.node 273 Tryz.f273 .nil .nil))) (.node 279 Tryz.f279 (.node 277 Tryz.f277 (.node 276 Tryz.f276 (.node 275 Tryz.f275 .nil .nil) .nil) (.node 278 Tryz.f278 .nil .nil)) (.node 281 Tryz.f281 (.node 280 Tryz.f280 .nil .nil) (.node 282 Tryz.f282 .nil .nil)))) (.node 294 Tryz.f294 (.node 290 Tryz.f290 (.node 286 Tryz.f286 (.node 285 Tryz.f285 (.node 284 Tryz.f284 .nil .nil) .nil) (.node 288 Tryz.f288 .nil .nil)) (.node 292 Tryz.f292 (.node 291 Tryz.f291 .nil .nil) (.node 293 Tryz.f293 .nil .nil))) (.node 298 Tryz.f298 (.node 296 Tryz.f296 (.node 295 Tryz.f295 .nil .nil) (.node 297 Tryz.f297 .nil .nil)) (.node 319 Tryz.f319 (.node 318 Tryz.f318 .nil .nil) (.node 345 Tryz.f345 .nil .nil))))))))
def undT : Tr TypeDesc := (.node 186 d186 (.node 93 d93 (.node 48 d48 (.node 26 d26 (.node 11 d11 (.node 5 d5 (.node 2 d2 (.node 1 d1 (.node 0 d0 .nil .nil) .nil) (.node 4 d4 (.node 3 d3 .nil .nil) .nil)) (.node 8 d8 (.node 7 d7 (.node 6 d6 .nil .nil) .nil) (.node 10 d10 (.node 9 d9 .nil .nil) .nil))) (.node 21 d21 (.node 16 d16 (.node 15 d15 (.node 12 d12 .nil .nil) .nil) (.node 20 d20 (.node 17 d17 .nil .nil) .nil)) (.node 24 d24 (.node 23 d23 (.node 22 d22 .nil .nil) .nil) (.node 25 d25 .nil .nil)))) (.node 37 d37 (.node 32 d32 (.node 29 d29 (.node 28 d28 (.node 27 d27 .nil .nil) .nil) (.node 31 d31 (.node 30 d30 .nil .nil) .nil)) (.node 35 d35 (.node 34 d34 (.node 33 d33 .nil .nil) .nil) (.node 36 d36 .nil .nil))) (.node 43 d43 (.node 40 d40 (.node 39 d39 (.node 38 d38 .nil .nil) .nil) (.node 42 d42 (.node 41 d41 .nil .nil) .nil)) (.node 46 d46 (.node 45 d45 (.node 44 d44 .nil .nil) .nil) (.node 47 d47 .nil .nil))))) (.node 71 d71 (.node 60 d60 (.node 54 d54 (.node 51 d51 (.node 50 d50 (.node 49 d49 .nil .nil) .nil) (.node 53 d53 (.node 52 d52 .nil .nil) .nil)) (.node 57 d57 (.node 56 d56 (.node 55 d55 .nil .nil) .nil) (.node 59 d59 (.node 58 d58 .nil .nil) .nil))) (.node 66 d66 (.node 63 d63 (.node 62 d62 (.node 61 d61 .nil .nil) .nil) (.node 65 d65 (.node 64 d64 .nil .nil) .nil)) (.node 69 d69 (.node 68 d68 (.node 67 d67 .nil .nil) .nil) (.node 70 d70 .nil .nil)))) (.node 82 d82 (.node 77 d77 (.node 74 d74 (.node 73 d73 (.node 72 d72 .nil .nil) .nil) (.node 76 d76 (.node 75 d75 .nil .nil) .nil)) (.node 80 d80 (.node 79 d79 (.node 78 d78 .nil .nil) .nil) (.node 81 d81 .nil .nil))) (.node 88 d88 (.node 85 d85 (.node 84 d84 (.node 83 d83 .nil .nil) .nil) (.node 87 d87 (.node 86 d86 .nil .nil) .nil)) (.node 91 d91 (.node 90 d90 (.node 89 d89 .nil .nil) .nil) (.node 92 d92 .nil .nil)))))) (.node 140 d140 (.node 118 d118 (.node 107 d107 (.node 99 d99 (.node 96 d96 (.node 95 d95 (.node 94 d94 .nil .nil) .nil) (.node 98 d98 (.node 97 d97 .nil .nil) .nil)) (.node 104 d104 (.node 103 d103 (.node 102 d102 .nil .nil) .nil) (.node 106 d106 (.node 105 d105 .nil .nil) .nil))) (.node 113 d113 (.node 110 d110 (.node 109 d109 (.node 108 d108 .nil .nil) .nil) (.node 112 d112 (.node 111 d111 .nil .nil) .nil)) (.node 116 d116 (.node 115 d115 (.node 114 d114 .nil .nil) .nil) (.node 117 d117 .nil .nil)))) (.node 129 d129 (.node 124 d124 (.node 121 d121 (.node 120 d120 (.node 119 d119 .nil .nil) .nil) (.node 123 d123 (.node 122 d122 .nil .nil) .nil)) (.node 127 d127 (.node 126 d126 (.node 125 d125 .nil .nil) .nil) (.node 128 d128 .nil .nil))) (.node 135 d135 (.node 132 d132 (.node 131 d131 (.node 130 d130 .nil .nil) .nil) (.node 134 d134 (.node 133 d133 .nil .nil) .nil)) (.node 138 d138 (.node 137 d137 (.node 136 d136 .nil .nil) .nil) (.node 139 d139 .nil .nil))))) (.node 164 d164 (.node 153 d153 (.node 146 d146 (.node 143 d143 (.node 142 d142 (.node 141 d141 .nil .nil) .nil) (.node 145 d145 (.node 144 d144 .nil .nil) .nil)) (.node 151 d151 (.node 150 d150 (.node 149 d149 .nil .nil) .nil) (.node 152 d152 .nil .nil))) (.node 159 d159 (.node 156 d156 (.node 155 d155 (.node 154 d154 .nil .nil) .nil) (.node 158 d158 (.node 157 d157 .nil .nil) .nil)) (.node 162 d162 (.node 161 d161 (.node 160 d160 .nil .nil) .nil) (.node 163 d163 .nil .nil)))) (.node 175 d175 (.node 170 d170 (.node 167 d167 (.node 166 d166 (.node 165 d165 .nil .nil) .nil) (.node 169 d169 (.node 168 d168 .nil .nil) .nil)) (.node 173 d173 (.node 172 d172 (.node 171 d171 .nil .nil) .nil) (.node 174 d174 .nil .nil))) (.node 181 d181 (.node 178 d178 (.node 177 d177 (.node 176 d176 .nil .nil) .nil) (.node 180 d180 (.node 179 d179 .nil .nil) .nil)) (.node 184 d184 (.node 183 d183 (.node 182 d182 .nil .nil) .nil) (.node 185 d185 .nil .nil))))))) (.node 276 d276 (.node 231 d231 (.node 209 d209 (.node 198 d198 (.node 192 d192 (.node 189 d189 (.node 188 d188 (.node 187 d187 .nil .nil) .nil) (.node 191 d191 (.node 190 d190 .nil .nil) .nil)) (.node 195 d195 (.node 194 d194 (.node 193 d193 .nil .nil) .nil) (.node 197 d197 (.node 196 d196 .nil .nil) .nil))) (.node 204 d204 (.node 201 d201 (.node 200 d200 (.node 199 d199 .nil .nil) .nil) (.node 203 d203 (.node 202 d202 .nil .nil) .nil)) (.node 207 d207 (.node 206 d206 (.node 205 d205 .nil .nil) .nil) (.node 208 d208 .nil .nil)))) (.node 220 d220 (.node 215 d215 (.node 212 d212 (.node 211 d211 (.node 210 d210 .nil .nil) .nil) (.node 214 d214 (.node 213 d213 .nil .nil) .nil)) (.node 218 d218 (.node 217 d217 (.node 216 d216 .nil .nil) .nil) (.node 219 d219 .nil .nil))) (.node 226 d226 (.node 223 d223 (.node 222 d222 (.node 221 d221 .nil .nil) .nil) (.node 225 d225 (.node 224 d224 .nil .nil) .nil)) (.node 229 d229 (.node 228 d228 (.node 227 d227 .nil .nil) .nil) (.node 230 d230 .nil .nil))))) (.node 254 d254 (.node 243 d243 (.node 237 d237 (.node 234 d234 (.node 233 d233 (.node 232 d232 .nil .nil) .nil) (.node 236 d236 (.node 235 d235 .nil .nil) .nil)) (.node 240 d240 (.node 239 d239 (.node 238 d238 .nil .nil) .nil) (.node 242 d242 (.node 241 d241 .nil .nil) .nil))) (.node 249 d249 (.node 246 d246 (.node 245 d245 (.node 244 d244 .nil .nil) .nil) (.node 248 d248 (.node 247 d247 .nil .nil) .nil)) (.node 252 d252 (.node 251 d251 (.node 250 d250 .nil .nil) .nil) (.node 253 d253 .nil .nil)))) (.node 265 d265 (.node 260 d260 (.node 257 d257 (.node 256 d256 (.node 255 d255 .nil .nil) .nil) (.node 259 d259 (.node 258 d258 .nil .nil) .nil)) (.node 263 d263 (.node 262 d262 (.node 261 d261 .nil .nil) .nil) (.node 264 d264 .nil .nil))) (.node 271 d271 (.node 268 d268 (.node 267 d267 (.node 266 d266 .nil .nil) .nil) (.node 270 d270 (.node 269 d269 .nil .nil) .nil)) (.node 274 d274 (.node 273 d273 (.node 272 d272 .nil .nil) .nil) (.node 275 d275 .nil .nil)))))) (.node 321 d321 (.node 299 d299 (.node 288 d288 (.node 282 d282 (.node 279 d279 (.node 278 d278 (.node 277 d277 .nil .nil) .nil) (.node 281 d281 (.node 280 d280 .nil .nil) .nil)) (.node 285 d285 (.node 284 d284 (.node 283 d283 .nil .nil) .nil) (.node 287 d287 (.node 286 d286 .nil .nil) .nil))) (.node 294 d294 (.node 291 d291 (.node 290 d290 (.node 289 d289 .nil .nil) .nil) (.node 293 d293 (.node 292 d292 .nil .nil) .nil)) (.node 297 d297 (.node 296 d296 (.node 295 d295 .nil .nil) .nil) (.node 298 d298 .nil .nil)))) (.node 310 d310 (.node 305 d305 (.node 302 d302 (.node 301 d301 (.node 300 d300 .nil .nil) .nil) (.node 304 d304 (.node 303 d303 .nil .nil) .nil)) (.node 308 d308 (.node 307 d307 (.node 306 d306 .nil .nil) .nil) (.node 309 d309 .nil .nil))) (.node 316 d316 (.node 313 d313 (.node 312 d312 (.node 311 d311 .nil .nil) .nil) (.node 315 d315 (.node 314 d314 .nil .nil) .nil)) (.node 319 d319 (.node 318 d318 (.node 317 d317 .nil .nil) .nil) (.node 320 d320 .nil .nil))))) (.node 343 d343 (.node 332 d332 (.node 327 d327 (.node 324 d324 (.node 323 d323 (.node 322 d322 .nil .nil) .nil) (.node 326 d326 (.node 325 d325 .nil .nil) .nil)) (.node 330 d330 (.node 329 d329 (.node 328 d328 .nil .nil) .nil) (.node 331 d331 .nil .nil))) (.node 338 d338 (.node 335 d335 (.node 334 d334 (.node 333 d333 .nil .nil) .nil) (.node 337 d337 (.node 336 d336 .nil .nil) .nil)) (.node 341 d341 (.node 340 d340 (.node 339 d339 .nil .nil) .nil) (.node 342 d342 .nil .nil)))) (.node 358 d358 (.node 349 d349 (.node 346 d346 (.node 345 d345 (.node 344 d344 .nil .nil) .nil) (.node 348 d348 (.node 347 d347 .nil .nil) .nil)) (.node 356 d356 (.node 353 d353 (.node 350 d350 .nil .nil) .nil) (.node 357 d357 .nil .nil))) (.node 368 d368 (.node 363 d363 (.node 360 d360 (.node 359 d359 .nil .nil) .nil) (.node 365 d365 (.node 364 d364 .nil .nil) .nil)) (.node 373 d373 (.node 372 d372 (.node 369 d369 .nil .nil) .nil) (.node 376 d376 .nil .nil))))))))
def sizT : Tr Nat := (.node 188 1 (.node 94 1 (.node 47 1 (.node 23 32 (.node 11 1 (.node 5 1 (.node 2 1 (.node 1 1 (.node 0 1 .nil .nil) .nil) (.node 4 1 (.node 3 1 .nil .nil) .nil)) (.node 8 4 (.node 7 4 (.node 6 1 .nil .nil) .nil) (.node 10 1 (.node 9 1 .nil .nil) .nil))) (.node 17 1 (.node 14 2 (.node 13 2 (.node 12 1 .nil .nil) .nil) (.node 16 1 (.node 15 1 .nil .nil) .nil)) (.node 20 1 (.node 19 1 (.node 18 1 .nil .nil) .nil) (.node 22 1 (.node 21 1 .nil .nil) .nil)))) (.node 35 1 (.node 29 5 (.node 26 1 (.node 25 1 (.node 24 32 .nil .nil) .nil) (.node 28 1 (.node 27 1 .nil .nil) .nil)) (.node 32 1 (.node 31 1 (.node 30 5 .nil .nil) .nil) (.node 34 1 (.node 33 1 .nil .nil) .nil))) (.node 41 1 (.node 38 1 (.node 37 1 (.node 36 1 .nil .nil) .nil) (.node 40 1 (.node 39 1 .nil .nil) .nil)) (.node 44 1 (.node 43 1 (.node 42 1 .nil .nil) .nil) (.node 46 1 (.node 45 1 .nil .nil) .nil))))) (.node 71 1 (.node 59 1 (.node 53 1 (.node 50 1 (.node 49 1 (.node 48 1 .nil .nil) .nil) (.node 52 1 (.node 51 1 .nil .nil) .nil)) (.node 56 1 (.node 55 1 (.node 54 1 .nil .nil) .nil) (.node 58 1 (.node 57 1 .nil .nil) .nil))) (.node 65 3 (.node 62 1 (.node 61 1 (.node 60 1 .nil .nil) .nil) (.node 64 3 (.node 63 1 .nil .nil) .nil)) (.node 68 1 (.node 67 1 (.node 66 1 .nil .nil) .nil) (.node 70 3 (.node 69 3 .nil .nil) .nil)))) (.node 83 1 (.node 77 1 (.node 74 1 (.node 73 2 (.node 72 2 .nil .nil) .nil) (.node 76 1 (.node 75 1 .nil .nil) .nil)) (.node 80 1 (.node 79 1 (.node 78 1 .nil .nil) .nil) (.node 82 1 (.node 81 1 .nil .nil) .nil))) (.node 89 2 (.node 86 1 (.node 85 1 (.node 84 1 .nil .nil) .nil) (.node 88 1 (.node 87 1 .nil .nil) .nil)) (.node 92 1 (.node 91 1 (.node 90 2 .nil .nil) .nil) (.node 93 1 .nil .nil)))))) (.node 141 1 (.node 118 1 (.node 106 1 (.node 100 3 (.node 97 1 (.node 96 1 (.node 95 1 .nil .nil) .nil) (.node 99 1 (.node 98 1 .nil .nil) .nil)) (.node 103 1 (.node 102 1 (.node 101 3 .nil .nil) .nil) (.node 105 1 (.node 104 1 .nil .nil) .nil))) (.node 112 4 (.node 109 1 (.node 108 1 (.node 107 1 .nil .nil) .nil) (.node 111 4 (.node 110 1 .nil .nil) .nil)) (.node 115 1 (.node 114 1 (.node 113 1 .nil .nil) .nil) (.node 117 6 (.node 116 6 .nil .nil) .nil)))) (.node 130 1 (.node 124 1 (.node 121 4 (.node 120 4 (.node 119 1 .nil .nil) .nil) (.node 123 3 (.node 122 3 .nil .nil) .nil)) (.node 127 1 (.node 126 1 (.node 125 1 .nil .nil) .nil) (.node 129 1 (.node 128 1 .nil .nil) .nil))) (.node 136 1 (.node 133 1 (.node 132 1 (.node 131 1 .nil .nil) .nil) (.node 135 1 (.node 134 1 .nil .nil) .nil)) (.node 139 1 (.node 138 1 (.node 137 1 .nil .nil) .nil) (.node 140 1 .nil .nil))))) (.node 165 1 (.node 153 1 (.node 147 1 (.node 144 2 (.node 143 2 (.node 142 1 .nil .nil) .nil) (.node 146 1 (.node 145 1 .nil .nil) .nil)) (.node 150 1 (.node 149 1 (.node 148 1 .nil .nil) .nil) (.node 152 1 (.node 151 1 .nil .nil) .nil))) (.node 159 1 (.node 156 1 (.node 155 1 (.node 154 1 .nil .nil) .nil) (.node 158 1 (.node 157 1 .nil .nil) .nil)) (.node 162 1 (.node 161 1 (.node 160 1 .nil .nil) .nil) (.node 164 1 (.node 163 1 .nil .nil) .nil)))) (.node 177 10 (.node 171 1 (.node 168 1 (.node 167 1 (.node 166 1 .nil .nil) .nil) (.node 170 2 (.node 169 2 .nil .nil) .nil)) (.node 174 1 (.node 173 1 (.node 172 1 .nil .nil) .nil) (.node 176 1 (.node 175 1 .nil .nil) .nil))) (.node 183 9 (.node 180 1 (.node 179 1 (.node 178 10 .nil .nil) .nil) (.node 182 2 (.node 181 2 .nil .nil) .nil)) (.node 186 1 (.node 185 1 (.node 184 9 .nil .nil) .nil) (.node 187 1 .nil .nil))))))) (.node 283 1 (.node 236 1 (.node 212 1 (.node 200 1 (.node 194 1 (.node 191 1 (.node 190 1 (.node 189 1 .nil .nil) .nil) (.node 193 1 (.node 192 1 .nil .nil) .nil)) (.node 197 1 (.node 196 1 (.node 195 1 .nil .nil) .nil) (.node 199 1 (.node 198 1 .nil .nil) .nil))) (.node 206 1 (.node 203 6 (.node 202 2 (.node 201 1 .nil .nil) .nil) (.node 205 1 (.node 204 1 .nil .nil) .nil)) (.node 209 11 (.node 208 11 (.node 207 1 .nil .nil) .nil) (.node 211 1 (.node 210 1 .nil .nil) .nil)))) (.node 224 1 (.node 218 1 (.node 215 1 (.node 214 1 (.node 213 1 .nil .nil) .nil) (.node 217 1 (.node 216 1 .nil .nil) .nil)) (.node 221 1 (.node 220 1 (.node 219 1 .nil .nil) .nil) (.node 223 1 (.node 222 1 .nil .nil) .nil))) (.node 230 1 (.node 227 1 (.node 226 1 (.node 225 1 .nil .nil) .nil) (.node 229 1 (.node 228 1 .nil .nil) .nil)) (.node 233 1 (.node 232 1 (.node 231 1 .nil .nil) .nil) (.node 235 1 (.node 234 1 .nil .nil) .nil))))) (.node 260 1 (.node 248 1 (.node 242 1 (.node 239 1 (.node 238 1 (.node 237 1 .nil .nil) .nil) (.node 241 1 (.node 240 1 .nil .nil) .nil)) (.node 245 1 (.node 244 1 (.node 243 1 .nil .nil) .nil) (.node 247 1 (.node 246 1 .nil .nil) .nil))) (.node 254 1 (.node 251 1 (.node 250 1 (.node 249 64 .nil .nil) .nil) (.node 253 1 (.node 252 1 .nil .nil) .nil)) (.node 257 1 (.node 256 1 (.node 255 1 .nil .nil) .nil) (.node 259 4 (.node 258 4 .nil .nil) .nil)))) (.node 272 1 (.node 266 1 (.node 263 1 (.node 262 1 (.node 261 1 .nil .nil) .nil) (.node 265 1 (.node 264 1 .nil .nil) .nil)) (.node 269 1 (.node 268 1 (.node 267 1 .nil .nil) .nil) (.node 271 1 (.node 270 1 .nil .nil) .nil))) (.node 278 16 (.node 275 1 (.node 274 1 (.node 273 1 .nil .nil) .nil) (.node 277 1 (.node 276 1 .nil .nil) .nil)) (.node 281 1 (.node 280 1 (.node 279 16 .nil .nil) .nil) (.node 282 1 .nil .nil)))))) (.node 330 1 (.node 307 1 (.node 295 2 (.node 289 1 (.node 286 1 (.node 285 1 (.node 284 1 .nil .nil) .nil) (.node 288 1 (.node 287 1 .nil .nil) .nil)) (.node 292 1 (.node 291 1 (.node 290 1 .nil .nil) .nil) (.node 294 256 (.node 293 1 .nil .nil) .nil))) (.node 301 1 (.node 298 1 (.node 297 32 (.node 296 2 .nil .nil) .nil) (.node 300 1 (.node 299 1 .nil .nil) .nil)) (.node 304 1 (.node 303 1 (.node 302 8 .nil .nil) .nil) (.node 306 1 (.node 305 1 .nil .nil) .nil)))) (.node 319 1 (.node 313 1 (.node 310 1 (.node 309 1 (.node 308 1 .nil .nil) .nil) (.node 312 1 (.node 311 1 .nil .nil) .nil)) (.node 316 1 (.node 315 1 (.node 314 1 .nil .nil) .nil) (.node 318 1 (.node 317 1 .nil .nil) .nil))) (.node 325 1 (.node 322 14 (.node 321 2 (.node 320 2 .nil .nil) .nil) (.node 324 1 (.node 323 1 .nil .nil) .nil)) (.node 328 1 (.node 327 1 (.node 326 1 .nil .nil) .nil) (.node 329 1 .nil .nil))))) (.node 354 0 (.node 342 1 (.node 336 3 (.node 333 1 (.node 332 1 (.node 331 1 .nil .nil) .nil) (.node 335 3 (.node 334 1 .nil .nil) .nil)) (.node 339 1 (.node 338 1 (.node 337 1 .nil .nil) .nil) (.node 341 1 (.node 340 1 .nil .nil) .nil))) (.node 348 1 (.node 345 1 (.node 344 1 (.node 343 1 .nil .nil) .nil) (.node 347 1 (.node 346 1 .nil .nil) .nil)) (.node 351 4 (.node 350 1 (.node 349 1 .nil .nil) .nil) (.node 353 0 (.node 352 4 .nil .nil) .nil)))) (.node 366 2 (.node 360 1 (.node 357 1 (.node 356 1 (.node 355 0 .nil .nil) .nil) (.node 359 1 (.node 358 1 .nil .nil) .nil)) (.node 363 1 (.node 362 11 (.node 361 11 .nil .nil) .nil) (.node 365 1 (.node 364 1 .nil .nil) .nil))) (.node 372 1 (.node 369 1 (.node 368 1 (.node 367 2 .nil .nil) .nil) (.node 371 5 (.node 370 5 .nil .nil) .nil)) (.node 375 4 (.node 374 4 (.node 373 1 .nil .nil) .nil) (.node 376 1 .nil .nil))))))))
def zeroT : Tr V := (.node 187 .nilfn (.node 91 .nilfn (.node 46 .nils (.node 22 .nils (.node 11 (.str []) (.node 6 (.int .u8 (0)) (.node 3 (.int .i64 (0)) (.node 2 (.int .i64 (0)) (.node 1 .nilfn .nil .nil) .nil) (.node 5 (.int .u8 (0)) (.node 4 (.bool false) .nil .nil) .nil)) (.node 9 (.str []) (.node 8 (.agg [(.int .i64 (0)), (.int .i64 (0)), (.bool false), (.int .u8 (0))]) (.node 7 (.agg [(.int .i64 (0)), (.int .i64 (0)), (.bool false), (.int .u8 (0))]) .nil .nil) .nil) (.node 10 (.str []) .nil .nil))) (.node 17 .nilptr (.node 14 (.agg [(.str []), (.int .u64 (0))]) (.node 13 (.agg [(.str []), (.int .u64 (0))]) (.node 12 (.int .u64 (0)) .nil .nil) .nil) (.node 16 .nilptr (.node 15 .nilptr .nil .nil) .nil)) (.node 20 .niliface (.node 19 (.agg [.nilptr]) (.node 18 (.agg [.nilptr]) .nil .nil) .nil) (.node 21 (.int .i32 (0)) .nil .nil)))) (.node 33 .nilfn (.node 28 .nils (.node 25 .nilfn (.node 24 (.agg [(.int .u8 (0)), (.int .u8 (0)), (.int .u8 (0)), (.int .u8 (0)), (.int .u8 (0)), (.int .u8 (0)), (.int .u8 (0)), (.int .u8 (0)), (.int .u8 (0)), (.int .u8 (0)), (.int .u8 (0)), (.int .u8 (0)), (.int .u8 (0)), (.int .u8 (0)), (.int .u8 (0)), (.int .u8 (0)), (.int .u8 (0)), (.int .u8 (0)), (.int .u8 (0)), (.int .u8 (0)), (.int .u8 (0)), (.int .u8 (0)), (.int .u8 (0)), (.int .u8 (0)), (.int .u8 (0)), (.int .u8 (0)), (.int .u8 (0)), (.int .u8 (0)), (.int .u8 (0)), (.int .u8 (0)), (.int .u8 (0)), (.int .u8 (0))]) (.node 23 (.agg [(.int .u8 (0)), (.int .u8 (0)), (.int .u8 (0)), (.int .u8 (0)), (.int .u8 (0)), (.int .u8 (0)), (.int .u8 (0)), (.int .u8 (0)), (.int .u8 (0)), (.int .u8 (0)), (.int .u8 (0)), (.int .u8 (0)), (.int .u8 (0)), (.int .u8 (0)), (.int .u8 (0)), (.int .u8 (0)), (.int .u8 (0)), (.int .u8 (0)), (.int .u8 (0)), (.int .u8 (0)), (.int .u8 (0)), (.int .u8 (0)), (.int .u8 (0)), (.int .u8 (0)), (.int .u8 (0)), (.int .u8 (0)), (.int .u8 (0)), (.int .u8 (0)), (.int .u8 (0)), (.int .u8 (0)), (.int .u8 (0)), (.int .u8 (0))]) .nil .nil) .nil) (.node 27 .nils (.node 26 .nilfn .nil .nil) .nil)) (.node 31 .nilfn (.node 30 (.agg [(.int .i64 (0)), .nils, (.str []), .nils, (.str [])]) (.node 29 (.agg [(.int .i64 (0)), .nils, (.str []), .nils, (.str [])]) .nil .nil) .nil) (.node 32 .nilfn .nil .nil))) (.node 38 .niliface (.node 36 .nilfn (.node 35 .nilfn (.node 34 .nilfn .nil .nil) .nil) (.node 37 .niliface .nil .nil)) (.node 43 .nilfn (.node 42 .nilfn (.node 40 .nilfn .nil .nil) .nil) (.node 45 .nilfn .nil .nil))))) (.node 69 (.agg [(.int .i64 (0)), (.int .i64 (0)), (.int .i64 (0))]) (.node 57 .nilfn (.node 52 .nilfn (.node 49 .nilfn (.node 48 .nilfn (.node 47 .nilfn .nil .nil) .nil) (.node 51 .nilfn (.node 50 .nilfn .nil .nil) .nil)) (.node 55 (.int .i64 (0)) (.node 54 .nilfn (.node 53 .nilfn .nil .nil) .nil) (.node 56 .nilfn .nil .nil))) (.node 63 .nilptr (.node 61 .nilptr (.node 60 .nilfn (.node 58 .nilfn .nil .nil) .nil) (.node 62 .nilfn .nil .nil)) (.node 66 .nilptr (.node 65 (.agg [(.int .i64 (0)), (.int .i64 (0)), .niliface]) (.node 64 (.agg [(.int .i64 (0)), (.int .i64 (0)), .niliface]) .nil .nil) .nil) (.node 68 .nilfn .nil .nil)))) (.node 81 .nilfn (.node 75 .nils (.node 72 (.agg [.nilptr, .niliface]) (.node 71 .nilptr (.node 70 (.agg [(.int .i64 (0)), (.int .i64 (0)), (.int .i64 (0))]) .nil .nil) .nil) (.node 74 .nilfn (.node 73 (.agg [.nilptr, .niliface]) .nil .nil) .nil)) (.node 79 .nilfn (.node 78 .nilfn (.node 77 .nilfn .nil .nil) .nil) (.node 80 .nilfn .nil .nil))) (.node 86 .nilfn (.node 84 .niliface (.node 83 .nilfn (.node 82 .nilfn .nil .nil) .nil) (.node 85 .niliface .nil .nil)) (.node 89 (.agg [.nilptr, .nils]) (.node 88 .nilptr (.node 87 .nilfn .nil .nil) .nil) (.node 90 (.agg [.nilptr, .nils]) .nil .nil)))))) (.node 140 .nilfn (.node 114 (.agg [.nilptr]) (.node 103 .nilfn (.node 98 .nilptr (.node 95 .nilfn (.node 94 .nilfn (.node 93 .nilfn .nil .nil) .nil) (.node 97 .nilfn (.node 96 .nilfn .nil .nil) .nil)) (.node 101 (.agg [.nilptr, .nilptr, (.int .u64 (0))]) (.node 100 (.agg [.nilptr, .nilptr, (.int .u64 (0))]) (.node 99 (.int .u64 (0)) .nil .nil) .nil) (.node 102 .nilfn .nil .nil))) (.node 109 .nilptr (.node 106 .nilfn (.node 105 .nilfn (.node 104 (.int .u8 (0)) .nil .nil) .nil) (.node 108 .nilptr (.node 107 .nilfn .nil .nil) .nil)) (.node 112 (.agg [(.int .i64 (0)), (.str []), (.str []), (.int .i64 (0))]) (.node 111 (.agg [(.int .i64 (0)), (.str []), (.str []), (.int .i64 (0))]) (.node 110 .nilfn .nil .nil) .nil) (.node 113 (.agg [.nilptr]) .nil .nil)))) (.node 126 .nilfn (.node 120 (.agg [(.int .i64 (0)), (.bool false), (.int .i64 (0)), (.str [])]) (.node 117 (.agg [.nils, (.int .i64 (0)), (.int .i64 (0)), (.int .i64 (0)), .nilptr, .nils]) (.node 116 (.agg [.nils, (.int .i64 (0)), (.int .i64 (0)), (.int .i64 (0)), .nilptr, .nils]) (.node 115 .nils .nil .nil) .nil) (.node 119 (.int .i64 (0)) (.node 118 .nilptr .nil .nil) .nil)) (.node 123 (.agg [(.int .i64 (0)), (.int .i64 (0)), (.int .i64 (0))]) (.node 122 (.agg [(.int .i64 (0)), (.int .i64 (0)), (.int .i64 (0))]) (.node 121 (.agg [(.int .i64 (0)), (.bool false), (.int .i64 (0)), (.str [])]) .nil .nil) .nil) (.node 125 .nilfn .nil .nil))) (.node 133 .nilfn (.node 131 .nilfn (.node 130 .nilfn (.node 128 .nilfn .nil .nil) .nil) (.node 132 .nilfn .nil .nil)) (.node 138 .nilfn (.node 136 .nilfn (.node 134 .nilfn .nil .nil) .nil) (.node 139 .nilfn .nil .nil))))) (.node 163 .nilfn (.node 152 .nilfn (.node 146 .nilfn (.node 143 (.agg [(.str []), (.str [])]) (.node 142 .nilfn (.node 141 .nils .nil .nil) .nil) (.node 145 .nilfn (.node 144 (.agg [(.str []), (.str [])]) .nil .nil) .nil)) (.node 149 .nilptr (.node 148 (.agg [.nilptr]) (.node 147 (.agg [.nilptr]) .nil .nil) .nil) (.node 150 .niliface .nil .nil))) (.node 157 .nilfn (.node 155 .niliface (.node 154 .nilfn (.node 153 .niliface .nil .nil) .nil) (.node 156 .nils .nil .nil)) (.node 161 .nilfn (.node 160 .nilfn (.node 158 .nilptr .nil .nil) .nil) (.node 162 (.int .u64 (0)) .nil .nil)))) (.node 176 .nilfn (.node 170 (.agg [.nils, (.int .i64 (0))]) (.node 167 .nilfn (.node 165 .niliface (.node 164 .nilfn .nil .nil) .nil) (.node 169 (.agg [.nils, (.int .i64 (0))]) (.node 168 .nils .nil .nil) .nil)) (.node 174 .nilfn (.node 173 .nilfn (.node 171 .nilfn .nil .nil) .nil) (.node 175 .nilfn .nil .nil))) (.node 181 (.agg [(.int .i64 (0)), (.str [])]) (.node 179 .nilfn (.node 178 (.agg [(.int .i64 (0)), (.str []), (.str []), (.int .i64 (0)), (.int .i64 (0)), (.int .i64 (0)), (.int .i64 (0)), (.int .i64 (0)), (.int .i64 (0)), (.int .i64 (0))]) (.node 177 (.agg [(.int .i64 (0)), (.str []), (.str []), (.int .i64 (0)), (.int .i64 (0)), (.int .i64 (0)), (.int .i64 (0)), (.int .i64 (0)), (.int .i64 (0)), (.int .i64 (0))]) .nil .nil) .nil) (.node 180 .nilfn .nil .nil)) (.node 184 (.agg [(.str []), (.int .i64 (0)), (.str []), (.int .i64 (0)), (.str []), (.str []), (.str []), (.bool false), (.bool false)]) (.node 183 (.agg [(.str []), (.int .i64 (0)), (.str []), (.int .i64 (0)), (.str []), (.str []), (.str []), (.bool false), (.bool false)]) (.node 182 (.agg [(.int .i64 (0)), (.str [])]) .nil .nil) .nil) (.node 186 .nilfn .nil .nil))))))) (.node 286 .nilfn (.node 237 .nilfn (.node 211 .nilfn (.node 200 .nilfn (.node 194 .nilfn (.node 191 .nilfn (.node 190 .nilfn (.node 189 .nilfn .nil .nil) .nil) (.node 193 .nilfn (.node 192 .nilfn .nil .nil) .nil)) (.node 197 .nilfn (.node 196 .nilfn (.node 195 .nilfn .nil .nil) .nil) (.node 199 .nilfn .nil .nil))) (.node 206 .nilfn (.node 203 (.agg [(.str []), (.int .i64 (0)), (.str []), (.int .i64 (0)), (.str []), (.int .i64 (0))]) (.node 202 (.agg [(.str []), (.int .i64 (0))]) (.node 201 .nilfn .nil .nil) .nil) (.node 205 .nilfn (.node 204 .nilfn .nil .nil) .nil)) (.node 209 (.agg [(.str []), (.str []), (.str []), (.str []), (.bool false), (.bool false), (.bool false), (.int .i64 (0)), (.int .i64 (0)), (.int .i64 (0)), (.int .i64 (0))]) (.node 208 (.agg [(.str []), (.str []), (.str []), (.str []), (.bool false), (.bool false), (.bool false), (.int .i64 (0)), (.int .i64 (0)), (.int .i64 (0)), (.int .i64 (0))]) (.node 207 .nilfn .nil .nil) .nil) (.node 210 .nilfn .nil .nil)))) (.node 223 (.int .u64 (0)) (.node 217 .nilfn (.node 214 .nilfn (.node 213 .nilptr (.node 212 .nilfn .nil .nil) .nil) (.node 216 .nilfn (.node 215 .nilfn .nil .nil) .nil)) (.node 221 .nilfn (.node 220 .nilfn (.node 219 .nilfn .nil .nil) .nil) (.node 222 .nilfn .nil .nil))) (.node 230 .nilfn (.node 227 .nilfn (.node 225 .nilfn (.node 224 .nilfn .nil .nil) .nil) (.node 228 .nilptr .nil .nil)) (.node 235 .nilfn (.node 233 .nilfn (.node 231 .nilfn .nil .nil) .nil) (.node 236 .nilfn .nil .nil))))) (.node 262 .nilfn (.node 249 (.agg [(.int .u8 (0)), (.int .u8 (0)), (.int .u8 (0)), (.int .u8 (0)), (.int .u8 (0)), (.int .u8 (0)), (.int .u8 (0)), (.int .u8 (0)), (.int .u8 (0)), (.int .u8 (0)), (.int .u8 (0)), (.int .u8 (0)), (.int .u8 (0)), (.int .u8 (0)), (.int .u8 (0)), (.int .u8 (0)), (.int .u8 (0)), (.int .u8 (0)), (.int .u8 (0)), (.int .u8 (0)), (.int .u8 (0)), (.int .u8 (0)), (.int .u8 (0)), (.int .u8 (0)), (.int .u8 (0)), (.int .u8 (0)), (.int .u8 (0)), (.int .u8 (0)), (.int .u8 (0)), (.int .u8 (0)), (.int .u8 (0)), (.int .u8 (0)), (.int .u8 (0)), (.int .u8 (0)), (.int .u8 (0)), (.int .u8 (0)), (.int .u8 (0)), (.int .u8 (0)), (.int .u8 (0)), (.int .u8 (0)), (.int .u8 (0)), (.int .u8 (0)), (.int .u8 (0)), (.int .u8 (0)), (.int .u8 (0)), (.int .u8 (0)), (.int .u8 (0)), (.int .u8 (0)), (.int .u8 (0)), (.int .u8 (0)), (.int .u8 (0)), (.int .u8 (0)), (.int .u8 (0)), (.int .u8 (0)), (.int .u8 (0)), (.int .u8 (0)), (.int .u8 (0)), (.int .u8 (0)), (.int .u8 (0)), (.int .u8 (0)), (.int .u8 (0)), (.int .u8 (0)), (.int .u8 (0)), (.int .u8 (0))]) (.node 244 .nilfn (.node 240 (.int .i64 (0)) (.node 239 .nilfn (.node 238 .nilfn .nil .nil) .nil) (.node 243 .nilfn (.node 242 .nilfn .nil .nil) .nil)) (.node 247 (.int .u32 (0)) (.node 246 .nilfn (.node 245 .nilfn .nil .nil) .nil) (.node 248 .nilfn .nil .nil))) (.node 256 .nilfn (.node 254 .nilfn (.node 252 .nilfn (.node 250 .nilfn .nil .nil) .nil) (.node 255 .nilfn .nil .nil)) (.node 259 (.agg [(.int .u8 (0)), (.int .u8 (0)), (.int .u8 (0)), (.int .u8 (0))]) (.node 258 (.agg [(.int .u8 (0)), (.int .u8 (0)), (.int .u8 (0)), (.int .u8 (0))]) (.node 257 .nilfn .nil .nil) .nil) (.node 261 .nilfn .nil .nil)))) (.node 274 .nilptr (.node 269 .nilfn (.node 265 .nilfn (.node 264 .nilfn (.node 263 .nilfn .nil .nil) .nil) (.node 268 .nilfn (.node 266 .nilfn .nil .nil) .nil)) (.node 272 .nilfn (.node 271 .nilfn (.node 270 (.int .u64 (0)) .nil .nil) .nil) (.node 273 .nilfn .nil .nil))) (.node 279 (.agg [(.int .u8 (0)), (.int .u8 (0)), (.int .u8 (0)), (.int .u8 (0)), (.int .u8 (0)), (.int .u8 (0)), (.int .u8 (0)), (.int .u8 (0)), (.int .u8 (0)), (.int .u8 (0)), (.int .u8 (0)), (.int .u8 (0)), (.int .u8 (0)), (.int .u8 (0)), (.int .u8 (0)), (.int .u8 (0))]) (.node 277 .nilfn (.node 276 .nilfn (.node 275 .nilfn .nil .nil) .nil) (.node 278 (.agg [(.int .u8 (0)), (.int .u8 (0)), (.int .u8 (0)), (.int .u8 (0)), (.int .u8 (0)), (.int .u8 (0)), (.int .u8 (0)), (.int .u8 (0)), (.int .u8 (0)), (.int .u8 (0)), (.int .u8 (0)), (.int .u8 (0)), (.int .u8 (0)), (.int .u8 (0)), (.int .u8 (0)), (.int .u8 (0))]) .nil .nil)) (.node 283 .nilfn (.node 282 .nilfn (.node 281 .nilfn .nil .nil) .nil) (.node 285 .nilfn .nil .nil)))))) (.node 334 .nilptr (.node 309 .nilfn (.node 298 .nils (.node 293 .nilfn (.node 290 .nilfn (.node 289 .nilfn (.node 287 .nilfn .nil .nil) .nil) (.node 292 .nilptr (.node 291 .nilfn .nil .nil) .nil)) (.node 296 (.agg [(.int .u8 (0)), (.int .u8 (0))]) (.node 295 (.agg [(.int .u8 (0)), (.int .u8 (0))]) (.node 294 (.agg [(.int .u8 (0)), (.int .u8 (0)), (.int .u8 (0)), (.int .u8 (0)), (.int .u8 (0)), (.int .u8 (0)), (.int .u8 (0)), (.int .u8 (0)), (.int .u8 (0)), (.int .u8 (0)), (.int .u8 (0)), (.int .u8 (0)), (.int .u8 (0)), (.int .u8 (0)), (.int .u8 (0)), (.int .u8 (0)), (.int .u8 (0)), (.int .u8 (0)), (.int .u8 (0)), (.int .u8 (0)), (.int .u8 (0)), (.int .u8 (0)), (.int .u8 (0)), (.int .u8 (0)), (.int .u8 (0)), (.int .u8 (0)), (.int .u8 (0)), (.int .u8 (0)), (.int .u8 (0)), (.int .u8 (0)), (.int .u8 (0)), (.int .u8 (0)), (.int .u8 (0)), (.int .u8 (0)), (.int .u8 (0)), (.int .u8 (0)), (.int .u8 (0)), (.int .u8 (0)), (.int .u8 (0)), (.int .u8 (0)), (.int .u8 (0)), (.int .u8 (0)), (.int .u8 (0)), (.int .u8 (0)), (.int .u8 (0)), (.int .u8 (0)), (.int .u8 (0)), (.int .u8 (0)), (.int .u8 (0)), (.int .u8 (0)), (.int .u8 (0)), (.int .u8 (0)), (.int .u8 (0)), (.int .u8 (0)), (.int .u8 (0)), (.int .u8 (0)), (.int .u8 (0)), (.int .u8 (0)), (.int .u8 (0)), (.int .u8 (0)), (.int .u8 (0)), (.int .u8 (0)), (.int .u8 (0)), (.int .u8 (0)), (.int .u8 (0)), (.int .u8 (0)), (.int .u8 (0)), (.int .u8 (0)), (.int .u8 (0)), (.int .u8 (0)), (.int .u8 (0)), (.int .u8 (0)), (.int .u8 (0)), (.int .u8 (0)), (.int .u8 (0)), (.int .u8 (0)), (.int .u8 (0)), (.int .u8 (0)), (.int .u8 (0)), (.int .u8 (0)), (.int .u8 (0)), (.int .u8 (0)), (.int .u8 (0)), (.int .u8 (0)), (.int .u8 (0)), (.int .u8 (0)), (.int .u8 (0)), (.int .u8 (0)), (.int .u8 (0)), (.int .u8 (0)), (.int .u8 (0)), (.int .u8 (0)), (.int .u8 (0)), (.int .u8 (0)), (.int .u8 (0)), (.int .u8 (0)), (.int .u8 (0)), (.int .u8 (0)), (.int .u8 (0)), (.int .u8 (0)), (.int .u8 (0)), (.int .u8 (0)), (.int .u8 (0)), (.int .u8 (0)), (.int .u8 (0)), (.int .u8 (0)), (.int .u8 (0)), (.int .u8 (0)), (.int .u8 (0)), (.int .u8 (0)), (.int .u8 (0)), (.int .u8 (0)), (.int .u8 (0)), (.int .u8 (0)), (.int .u8 (0)), (.int .u8 (0)), (.int .u8 (0)), (.int .u8 (0)), (.int .u8 (0)), (.int .u8 (0)), (.int .u8 (0)), (.int .u8 (0)), (.int .u8 (0)), (.int .u8 (0)), (.int .u8 (0)), (.int .u8 (0)), (.int .u8 (0)), (.int .u8 (0)), (.int .u8 (0)), (.int .u8 (0)), (.int .u8 (0)), (.int .u8 (0)), (.int .u8 (0)), (.int .u8 (0)), (.int .u8 (0)), (.int .u8 (0)), (.int .u8 (0)), (.int .u8 (0)), (.int .u8 (0)), (.int .u8 (0)), (.int .u8 (0)), (.int .u8 (0)), (.int .u8 (0)), (.int .u8 (0)), (.int .u8 (0)), (.int .u8 (0)), (.int .u8 (0)), (.int .u8 (0)), (.int .u8 (0)), (.int .u8 (0)), (.int .u8 (0)), (.int .u8 (0)), (.int .u8 (0)), (.int .u8 (0)), (.int .u8 (0)), (.int .u8 (0)), (.int .u8 (0)), (.int .u8 (0)), (.int .u8 (0)), (.int .u8 (0)), (.int .u8 (0)), (.int .u8 (0)), (.int .u8 (0)), (.int .u8 (0)), (.int .u8 (0)), (.int .u8 (0)), (.int .u8 (0)), (.int .u8 (0)), (.int .u8 (0)), (.int .u8 (0)), (.int .u8 (0)), (.int .u8 (0)), (.int .u8 (0)), (.int .u8 (0)), (.int .u8 (0)), (.int .u8 (0)), (.int .u8 (0)), (.int .u8 (0)), (.int .u8 (0)), (.int .u8 (0)), (.int .u8 (0)), (.int .u8 (0)), (.int .u8 (0)), (.int .u8 (0)), (.int .u8 (0)), (.int .u8 (0)), (.int .u8 (0)), (.int .u8 (0)), (.int .u8 (0)), (.int .u8 (0)), (.int .u8 (0)), (.int .u8 (0)), (.int .u8 (0)), (.int .u8 (0)), (.int .u8 (0)), (.int .u8 (0)), (.int .u8 (0)), (.int .u8 (0)), (.int .u8 (0)), (.int .u8 (0)), (.int .u8 (0)), (.int .u8 (0)), (.int .u8 (0)), (.int .u8 (0)), (.int .u8 (0)), (.int .u8 (0)), (.int .u8 (0)), (.int .u8 (0)), (.int .u8 (0)), (.int .u8 (0)), (.int .u8 (0)), (.int .u8 (0)), (.int .u8 (0)), (.int .u8 (0)), (.int .u8 (0)), (.int .u8 (0)), (.int .u8 (0)), (.int .u8 (0)), (.int .u8 (0)), (.int .u8 (0)), (.int .u8 (0)), (.int .u8 (0)), (.int .u8 (0)), (.int .u8 (0)), (.int .u8 (0)), (.int .u8 (0)), (.int .u8 (0)), (.int .u8 (0)), (.int .u8 (0)), (.int .u8 (0)), (.int .u8 (0)), (.int .u8 (0)), (.int .u8 (0)), (.int .u8 (0)), (.int .u8 (0)), (.int .u8 (0)), (.int .u8 (0)), (.int .u8 (0)), (.int .u8 (0)), (.int .u8 (0)), (.int .u8 (0)), (.int .u8 (0)), (.int .u8 (0)), (.int .u8 (0)), (.int .u8 (0)), (.int .u8 (0)), (.int .u8 (0)), (.int .u8 (0)), (.int .u8 (0)), (.int .u8 (0)), (.int .u8 (0)), (.int .u8 (0)), (.int .u8 (0)), (.int .u8 (0)), (.int .u8 (0)), (.int .u8 (0))]) .nil .nil) .nil) (.node 297 (.agg [(.int .u8 (0)), (.int .u8 (0)), (.int .u8 (0)), (.int .u8 (0)), (.int .u8 (0)), (.int .u8 (0)), (.int .u8 (0)), (.int .u8 (0)), (.int .u8 (0)), (.int .u8 (0)), (.int .u8 (0)), (.int .u8 (0)), (.int .u8 (0)), (.int .u8 (0)), (.int .u8 (0)), (.int .u8 (0)), (.int .u8 (0)), (.int .u8 (0)), (.int .u8 (0)), (.int .u8 (0)), (.int .u8 (0)), (.int .u8 (0)), (.int .u8 (0)), (.int .u8 (0)), (.int .u8 (0)), (.int .u8 (0)), (.int .u8 (0)), (.int .u8 (0)), (.int .u8 (0)), (.int .u8 (0)), (.int .u8 (0)), (.int .u8 (0))]) .nil .nil))) (.node 304 .nilfn (.node 302 (.agg [(.int .u16 (0)), (.int .u16 (0)), (.int .u16 (0)), (.int .u16 (0)), (.int .u16 (0)), (.int .u16 (0)), (.int .u16 (0)), (.int .u16 (0))]) (.node 301 (.int .u16 (0)) (.node 300 .nilfn .nil .nil) .nil) (.node 303 .nilfn .nil .nil)) (.node 307 .nilfn (.node 306 .nilfn (.node 305 .nilfn .nil .nil) .nil) (.node 308 .nilfn .nil .nil)))) (.node 324 .nilfn (.node 319 .nilfn (.node 314 .nilfn (.node 313 .nilfn (.node 311 .nilfn .nil .nil) .nil) (.node 317 .nilfn (.node 316 .nilfn .nil .nil) .nil)) (.node 322 (.agg [(.int .i64 (0)), (.int .i64 (0)), (.int .i64 (0)), (.int .i64 (0)), (.int .i64 (0)), (.int .i64 (0)), (.int .i64 (0)), (.int .i64 (0)), (.int .i64 (0)), (.int .i64 (0)), (.int .i64 (0)), (.int .i64 (0)), (.int .i64 (0)), (.int .i64 (0))]) (.node 321 (.agg [(.int .i64 (0)), (.int .i64 (0))]) (.node 320 (.agg [(.int .i64 (0)), (.int .i64 (0))]) .nil .nil) .nil) (.node 323 .nilfn .nil .nil))) (.node 329 .nilfn (.node 327 .nilfn (.node 326 .nilfn (.node 325 .nilfn .nil .nil) .nil) (.node 328 .nilfn .nil .nil)) (.node 332 .nilfn (.node 331 .nilfn (.node 330 .nilfn .nil .nil) .nil) (.node 333 .nilfn .nil .nil))))) (.node 355 (.agg []) (.node 345 .nilfn (.node 340 .nilfn (.node 337 .nilfn (.node 336 (.agg [(.str []), (.int .i64 (0)), (.int .i64 (0))]) (.node 335 (.agg [(.str []), (.int .i64 (0)), (.int .i64 (0))]) .nil .nil) .nil) (.node 339 .nilfn (.node 338 .nilfn .nil .nil) .nil)) (.node 343 .nilfn (.node 342 .nilfn (.node 341 .nilfn .nil .nil) .nil) (.node 344 .nilfn .nil .nil))) (.node 350 .nilfn (.node 348 .nilfn (.node 347 .nilfn (.node 346 .nilfn .nil .nil) .nil) (.node 349 .nilfn .nil .nil)) (.node 353 (.agg []) (.node 352 (.agg [.nilptr, .nilptr, .nilptr, (.str [])]) (.node 351 (.agg [.nilptr, .nilptr, .nilptr, (.str [])]) .nil .nil) .nil) (.node 354 (.agg []) .nil .nil)))) (.node 367 (.agg [(.str []), (.int .u8 (0))]) (.node 361 (.agg [(.int .u64 (0)), (.int .u64 (0)), (.int .u32 (0)), (.int .u8 (0)), (.int .u8 (0)), (.int .u8 (0)), (.int .u8 (0)), .nilfn, .nilptr, (.int .i32 (0)), (.int .i32 (0))]) (.node 358 .nilfn (.node 357 (.int .u8 (0)) (.node 356 .nilfn .nil .nil) .nil) (.node 360 (.int .i32 (0)) (.node 359 (.int .i32 (0)) .nil .nil) .nil)) (.node 365 .nilfn (.node 364 .nilfn (.node 362 (.agg [(.int .u64 (0)), (.int .u64 (0)), (.int .u32 (0)), (.int .u8 (0)), (.int .u8 (0)), (.int .u8 (0)), (.int .u8 (0)), .nilfn, .nilptr, (.int .i32 (0)), (.int .i32 (0))]) .nil .nil) .nil) (.node 366 (.agg [(.str []), (.int .u8 (0))]) .nil .nil))) (.node 372 .nils (.node 370 (.agg [(.int .i32 (0)), (.int .u16 (0)), (.int .u16 (0)), (.int .u32 (0)), (.int .u32 (0))]) (.node 369 .nilfn (.node 368 .nilptr .nil .nil) .nil) (.node 371 (.agg [(.int .i32 (0)), (.int .u16 (0)), (.int .u16 (0)), (.int .u32 (0)), (.int .u32 (0))]) .nil .nil)) (.node 375 (.agg [(.int .i32 (0)), (.int .i32 (0)), (.int .i32 (0)), (.int .i32 (0))]) (.node 374 (.agg [(.int .i32 (0)), (.int .i32 (0)), (.int .i32 (0)), (.int .i32 (0))]) (.node 373 (.int .i32 (0)) .nil .nil) .nil) (.node 376 .nilptr .nil .nil))))))))
def eqT : Tr Unit := (.node 194 () (.node 99 () (.node 47 () (.node 22 () (.node 11 () (.node 5 () (.node 2 () (.node 1 () (.node 0 () .nil .nil) .nil) (.node 4 () (.node 3 () .nil .nil) .nil)) (.node 8 () (.node 7 () (.node 6 () .nil .nil) .nil) (.node 10 () (.node 9 () .nil .nil) .nil))) (.node 17 () (.node 14 () (.node 13 () (.node 12 () .nil .nil) .nil) (.node 16 () (.node 15 () .nil .nil) .nil)) (.node 20 () (.node 19 () (.node 18 () .nil .nil) .nil) (.node 21 () .nil .nil)))) (.node 34 () (.node 28 () (.node 25 () (.node 24 () (.node 23 () .nil .nil) .nil) (.node 27 () (.node 26 () .nil .nil) .nil)) (.node 31 () (.node 30 () (.node 29 () .nil .nil) .nil) (.node 33 () (.node 32 () .nil .nil) .nil))) (.node 42 () (.node 39 () (.node 36 () (.node 35 () .nil .nil) .nil) (.node 41 () (.node 40 () .nil .nil) .nil)) (.node 45 () (.node 44 () (.node 43 () .nil .nil) .nil) (.node 46 () .nil .nil))))) (.node 74 () (.node 59 () (.node 53 () (.node 50 () (.node 49 () (.node 48 () .nil .nil) .nil) (.node 52 () (.node 51 () .nil .nil) .nil)) (.node 56 () (.node 55 () (.node 54 () .nil .nil) .nil) (.node 58 () (.node 57 () .nil .nil) .nil))) (.node 67 () (.node 62 () (.node 61 () (.node 60 () .nil .nil) .nil) (.node 66 () (.node 63 () .nil .nil) .nil)) (.node 70 () (.node 69 () (.node 68 () .nil .nil) .nil) (.node 71 () .nil .nil)))) (.node 88 () (.node 80 () (.node 77 () (.node 76 () (.node 75 () .nil .nil) .nil) (.node 79 () (.node 78 () .nil .nil) .nil)) (.node 83 () (.node 82 () (.node 81 () .nil .nil) .nil) (.node 87 () (.node 86 () .nil .nil) .nil))) (.node 94 () (.node 91 () (.node 90 () (.node 89 () .nil .nil) .nil) (.node 93 () (.node 92 () .nil .nil) .nil)) (.node 97 () (.node 96 () (.node 95 () .nil .nil) .nil) (.node 98 () .nil .nil)))))) (.node 145 () (.node 122 () (.node 111 () (.node 105 () (.node 102 () (.node 101 () (.node 100 () .nil .nil) .nil) (.node 104 () (.node 103 () .nil .nil) .nil)) (.node 108 () (.node 107 () (.node 106 () .nil .nil) .nil) (.node 110 () (.node 109 () .nil .nil) .nil))) (.node 117 () (.node 114 () (.node 113 () (.node 112 () .nil .nil) .nil) (.node 116 () (.node 115 () .nil .nil) .nil)) (.node 120 () (.node 119 () (.node 118 () .nil .nil) .nil) (.node 121 () .nil .nil)))) (.node 134 () (.node 128 () (.node 125 () (.node 124 () (.node 123 () .nil .nil) .nil) (.node 127 () (.node 126 () .nil .nil) .nil)) (.node 131 () (.node 130 () (.node 129 () .nil .nil) .nil) (.node 133 () (.node 132 () .nil .nil) .nil))) (.node 140 () (.node 137 () (.node 136 () (.node 135 () .nil .nil) .nil) (.node 139 () (.node 138 () .nil .nil) .nil)) (.node 143 () (.node 142 () (.node 141 () .nil .nil) .nil) (.node 144 () .nil .nil))))) (.node 172 () (.node 160 () (.node 152 () (.node 148 () (.node 147 () (.node 146 () .nil .nil) .nil) (.node 151 () (.node 149 () .nil .nil) .nil)) (.node 157 () (.node 156 () (.node 154 () .nil .nil) .nil) (.node 159 () (.node 158 () .nil .nil) .nil))) (.node 167 () (.node 163 () (.node 162 () (.node 161 () .nil .nil) .nil) (.node 166 () (.node 164 () .nil .nil) .nil)) (.node 170 () (.node 169 () (.node 168 () .nil .nil) .nil) (.node 171 () .nil .nil)))) (.node 183 () (.node 178 () (.node 175 () (.node 174 () (.node 173 () .nil .nil) .nil) (.node 177 () (.node 176 () .nil .nil) .nil)) (.node 181 () (.node 180 () (.node 179 () .nil .nil) .nil) (.node 182 () .nil .nil))) (.node 189 () (.node 186 () (.node 185 () (.node 184 () .nil .nil) .nil) (.node 188 () (.node 187 () .nil .nil) .nil)) (.node 192 () (.node 191 () (.node 190 () .nil .nil) .nil) (.node 193 () .nil .nil))))))) (.node 286 () (.node 240 () (.node 217 () (.node 206 () (.node 200 () (.node 197 () (.node 196 () (.node 195 () .nil .nil) .nil) (.node 199 () (.node 198 () .nil .nil) .nil)) (.node 203 () (.node 202 () (.node 201 () .nil .nil) .nil) (.node 205 () (.node 204 () .nil .nil) .nil))) (.node 212 () (.node 209 () (.node 208 () (.node 207 () .nil .nil) .nil) (.node 211 () (.node 210 () .nil .nil) .nil)) (.node 215 () (.node 214 () (.node 213 () .nil .nil) .nil) (.node 216 () .nil .nil)))) (.node 229 () (.node 223 () (.node 220 () (.node 219 () (.node 218 () .nil .nil) .nil) (.node 222 () (.node 221 () .nil .nil) .nil)) (.node 226 () (.node 225 () (.node 224 () .nil .nil) .nil) (.node 228 () (.node 227 () .nil .nil) .nil))) (.node 235 () (.node 232 () (.node 231 () (.node 230 () .nil .nil) .nil) (.node 234 () (.node 233 () .nil .nil) .nil)) (.node 238 () (.node 237 () (.node 236 () .nil .nil) .nil) (.node 239 () .nil .nil))))) (.node 263 () (.node 252 () (.node 246 () (.node 243 () (.node 242 () (.node 241 () .nil .nil) .nil) (.node 245 () (.node 244 () .nil .nil) .nil)) (.node 249 () (.node 248 () (.node 247 () .nil .nil) .nil) (.node 251 () (.node 250 () .nil .nil) .nil))) (.node 258 () (.node 255 () (.node 254 () (.node 253 () .nil .nil) .nil) (.node 257 () (.node 256 () .nil .nil) .nil)) (.node 261 () (.node 260 () (.node 259 () .nil .nil) .nil) (.node 262 () .nil .nil)))) (.node 275 () (.node 269 () (.node 266 () (.node 265 () (.node 264 () .nil .nil) .nil) (.node 268 () (.node 267 () .nil .nil) .nil)) (.node 272 () (.node 271 () (.node 270 () .nil .nil) .nil) (.node 274 () (.node 273 () .nil .nil) .nil))) (.node 281 () (.node 278 () (.node 277 () (.node 276 () .nil .nil) .nil) (.node 280 () (.node 279 () .nil .nil) .nil)) (.node 284 () (.node 283 () (.node 282 () .nil .nil) .nil) (.node 285 () .nil .nil)))))) (.node 332 () (.node 309 () (.node 298 () (.node 292 () (.node 289 () (.node 288 () (.node 287 () .nil .nil) .nil) (.node 291 () (.node 290 () .nil .nil) .nil)) (.node 295 () (.node 294 () (.node 293 () .nil .nil) .nil) (.node 297 () (.node 296 () .nil .nil) .nil))) (.node 304 () (.node 301 () (.node 300 () (.node 299 () .nil .nil) .nil) (.node 303 () (.node 302 () .nil .nil) .nil)) (.node 307 () (.node 306 () (.node 305 () .nil .nil) .nil) (.node 308 () .nil .nil)))) (.node 321 () (.node 315 () (.node 312 () (.node 311 () (.node 310 () .nil .nil) .nil) (.node 314 () (.node 313 () .nil .nil) .nil)) (.node 318 () (.node 317 () (.node 316 () .nil .nil) .nil) (.node 320 () (.node 319 () .nil .nil) .nil))) (.node 327 () (.node 324 () (.node 323 () (.node 322 () .nil .nil) .nil) (.node 326 () (.node 325 () .nil .nil) .nil)) (.node 330 () (.node 329 () (.node 328 () .nil .nil) .nil) (.node 331 () .nil .nil))))) (.node 355 () (.node 344 () (.node 338 () (.node 335 () (.node 334 () (.node 333 () .nil .nil) .nil) (.node 337 () (.node 336 () .nil .nil) .nil)) (.node 341 () (.node 340 () (.node 339 () .nil .nil) .nil) (.node 343 () (.node 342 () .nil .nil) .nil))) (.node 350 () (.node 347 () (.node 346 () (.node 345 () .nil .nil) .nil) (.node 349 () (.node 348 () .nil .nil) .nil)) (.node 353 () (.node 352 () (.node 351 () .nil .nil) .nil) (.node 354 () .nil .nil)))) (.node 366 () (.node 361 () (.node 358 () (.node 357 () (.node 356 () .nil .nil) .nil) (.node 360 () (.node 359 () .nil .nil) .nil)) (.node 364 () (.node 363 () (.node 362 () .nil .nil) .nil) (.node 365 () .nil .nil))) (.node 372 () (.node 369 () (.node 368 () (.node 367 () .nil .nil) .nil) (.node 371 () (.node 370 () .nil .nil) .nil)) (.node 375 () (.node 374 () (.node 373 () .nil .nil) .nil) (.node 376 () .nil .nil))))))))
def globT : Tr V := (.node 4 (.agg [(.int .u8 (128)), (.int .u8 (191)), (.int .u8 (160)), (.int .u8 (191)), (.int .u8 (128)), (.int .u8 (159)), (.int .u8 (144)), (.int .u8 (191)), (.int .u8 (128)), (.int .u8 (143)), (.int .u8 (0)), (.int .u8 (0)), (.int .u8 (0)), (.int .u8 (0)), (.int .u8 (0)), (.int .u8 (0)), (.int .u8 (0)), (.int .u8 (0)), (.int .u8 (0)), (.int .u8 (0)), (.int .u8 (0)), (.int .u8 (0)), (.int .u8 (0)), (.int .u8 (0)), (.int .u8 (0)), (.int .u8 (0)), (.int .u8 (0)), (.int .u8 (0)), (.int .u8 (0)), (.int .u8 (0)), (.int .u8 (0)), (.int .u8 (0))]) (.node 3 (.agg [(.int .u8 (240)), (.int .u8 (240)), (.int .u8 (240)), (.int .u8 (240)), (.int .u8 (240)), (.int .u8 (240)), (.int .u8 (240)), (.int .u8 (240)), (.int .u8 (240)), (.int .u8 (240)), (.int .u8 (240)), (.int .u8 (240)), (.int .u8 (240)), (.int .u8 (240)), (.int .u8 (240)), (.int .u8 (240)), (.int .u8 (240)), (.int .u8 (240)), (.int .u8 (240)), (.int .u8 (240)), (.int .u8 (240)), (.int .u8 (240)), (.int .u8 (240)), (.int .u8 (240)), (.int .u8 (240)), (.int .u8 (240)), (.int .u8 (240)), (.int .u8 (240)), (.int .u8 (240)), (.int .u8 (240)), (.int .u8 (240)), (.int .u8 (240)), (.int .u8 (240)), (.int .u8 (240)), (.int .u8 (240)), (.int .u8 (240)), (.int .u8 (240)), (.int .u8 (240)), (.int .u8 (240)), (.int .u8 (240)), (.int .u8 (240)), (.int .u8 (240)), (.int .u8 (240)), (.int .u8 (240)), (.int .u8 (240)), (.int .u8 (240)), (.int .u8 (240)), (.int .u8 (240)), (.int .u8 (240)), (.int .u8 (240)), (.int .u8 (240)), (.int .u8 (240)), (.int .u8 (240)), (.int .u8 (240)), (.int .u8 (240)), (.int .u8 (240)), (.int .u8 (240)), (.int .u8 (240)), (.int .u8 (240)), (.int .u8 (240)), (.int .u8 (240)), (.int .u8 (240)), (.int .u8 (240)), (.int .u8 (240)), (.int .u8 (240)), (.int .u8 (240)), (.int .u8 (240)), (.int .u8 (240)), (.int .u8 (240)), (.int .u8 (240)), (.int .u8 (240)), (.int .u8 (240)), (.int .u8 (240)), (.int .u8 (240)), (.int .u8 (240)), (.int .u8 (240)), (.int .u8 (240)), (.int .u8 (240)), (.int .u8 (240)), (.int .u8 (240)), (.int .u8 (240)), (.int .u8 (240)), (.int .u8 (240)), (.int .u8 (240)), (.int .u8 (240)), (.int .u8 (240)), (.int .u8 (240)), (.int .u8 (240)), (.int .u8 (240)), (.int .u8 (240)), (.int .u8 (240)), (.int .u8 (240)), (.int .u8 (240)), (.int .u8 (240)), (.int .u8 (240)), (.int .u8 (240)), (.int .u8 (240)), (.int .u8 (240)), (.int .u8 (240)), (.int .u8 (240)), (.int .u8 (240)), (.int .u8 (240)), (.int .u8 (240)), (.int .u8 (240)), (.int .u8 (240)), (.int .u8 (240)), (.int .u8 (240)), (.int .u8 (240)), (.int .u8 (240)), (.int .u8 (240)), (.int .u8 (240)), (.int .u8 (240)), (.int .u8 (240)), (.int .u8 (240)), (.int .u8 (240)), (.int .u8 (240)), (.int .u8 (240)), (.int .u8 (240)), (.int .u8 (240)), (.int .u8 (240)), (.int .u8 (240)), (.int .u8 (240)), (.int .u8 (240)), (.int .u8 (240)), (.int .u8 (240)), (.int .u8 (240)), (.int .u8 (240)), (.int .u8 (240)), (.int .u8 (241)), (.int .u8 (241)), (.int .u8 (241)), (.int .u8 (241)), (.int .u8 (241)), (.int .u8 (241)), (.int .u8 (241)), (.int .u8 (241)), (.int .u8 (241)), (.int .u8 (241)), (.int .u8 (241)), (.int .u8 (241)), (.int .u8 (241)), (.int .u8 (241)), (.int .u8 (241)), (.int .u8 (241)), (.int .u8 (241)), (.int .u8 (241)), (.int .u8 (241)), (.int .u8 (241)), (.int .u8 (241)), (.int .u8 (241)), (.int .u8 (241)), (.int .u8 (241)), (.int .u8 (241)), (.int .u8 (241)), (.int .u8 (241)), (.int .u8 (241)), (.int .u8 (241)), (.int .u8 (241)), (.int .u8 (241)), (.int .u8 (241)), (.int .u8 (241)), (.int .u8 (241)), (.int .u8 (241)), (.int .u8 (241)), (.int .u8 (241)), (.int .u8 (241)), (.int .u8 (241)), (.int .u8 (241)), (.int .u8 (241)), (.int .u8 (241)), (.int .u8 (241)), (.int .u8 (241)), (.int .u8 (241)), (.int .u8 (241)), (.int .u8 (241)), (.int .u8 (241)), (.int .u8 (241)), (.int .u8 (241)), (.int .u8 (241)), (.int .u8 (241)), (.int .u8 (241)), (.int .u8 (241)), (.int .u8 (241)), (.int .u8 (241)), (.int .u8 (241)), (.int .u8 (241)), (.int .u8 (241)), (.int .u8 (241)), (.int .u8 (241)), (.int .u8 (241)), (.int .u8 (241)), (.int .u8 (241)), (.int .u8 (241)), (.int .u8 (241)), (.int .u8 (2)), (.int .u8 (2)), (.int .u8 (2)), (.int .u8 (2)), (.int .u8 (2)), (.int .u8 (2)), (.int .u8 (2)), (.int .u8 (2)), (.int .u8 (2)), (.int .u8 (2)), (.int .u8 (2)), (.int .u8 (2)), (.int .u8 (2)), (.int .u8 (2)), (.int .u8 (2)), (.int .u8 (2)), (.int .u8 (2)), (.int .u8 (2)), (.int .u8 (2)), (.int .u8 (2)), (.int .u8 (2)), (.int .u8 (2)), (.int .u8 (2)), (.int .u8 (2)), (.int .u8 (2)), (.int .u8 (2)), (.int .u8 (2)), (.int .u8 (2)), (.int .u8 (2)), (.int .u8 (2)), (.int .u8 (19)), (.int .u8 (3)), (.int .u8 (3)), (.int .u8 (3)), (.int .u8 (3)), (.int .u8 (3)), (.int .u8 (3)), (.int .u8 (3)), (.int .u8 (3)), (.int .u8 (3)), (.int .u8 (3)), (.int .u8 (3)), (.int .u8 (3)), (.int .u8 (35)), (.int .u8 (3)), (.int .u8 (3)), (.int .u8 (52)), (.int .u8 (4)), (.int .u8 (4)), (.int .u8 (4)), (.int .u8 (68)), (.int .u8 (241)), (.int .u8 (241)), (.int .u8 (241)), (.int .u8 (241)), (.int .u8 (241)), (.int .u8 (241)), (.int .u8 (241)), (.int .u8 (241)), (.int .u8 (241)), (.int .u8 (241)), (.int .u8 (241))]) (.node 1 (.agg [(.str [116, 114, 117, 101]), (.int .i64 (9)), (.str [102, 97, 108, 115, 101]), (.int .i64 (10)), (.str [110, 117, 108, 108]), (.int .i64 (11))]) .nil .nil) .nil) (.node 5 (.agg [(.int .i64 (223)), (.int .i64 (246)), (.int .i64 (248)), (.int .i64 (8191)), (.int .i64 (11264)), (.int .i64 (12287)), (.int .i64 (12293)), (.int .i64 (55295)), (.int .i64 (63744)), (.int .i64 (64975)), (.int .i64 (65008)), (.int .i64 (65023)), (.int .i64 (65536)), (.int .i64 (262143))]) .nil .nil))
def o3 : Tr Plan := (.node 13 (.take 0 (.take 1 (.take 2 (.take 3 (.take 5 (.take 6 (.take 7 (.take 8 (.take 4 (.take 9 (.take 10 (.take 11 .stop)))))))))))) .nil .nil)
def o5 : Tr Plan := (.node 5 (.take 0 (.take 1 (.take 2 (.take 3 (.take 5 (.take 6 (.take 7 (.take 8 (.take 4 (.take 9 (.take 10 (.take 11 (.take 12 (.take 14 (.take 13 (.take 15 (.take 16 (.take 17 (.take 18 (.take 19 (.take 21 (.take 20 (.take 22 (.take 23 (.take 24 (.take 25 .stop)))))))))))))))))))))))))) .nil .nil)
def o10 : Tr Plan := (.node 4 (.take 0 (.take 1 (.take 2 (.take 3 (.take 4 (.take 5 (.take 6 (.take 7 (.take 8 (.take 9 (.take 10 (.take 11 (.take 12 (.take 13 (.take 14 (.take 15 (.take 16 (.take 17 (.take 18 (.take 19 (.take 20 (.take 21 (.take 22 (.take 23 (.take 24 .stop))))))))))))))))))))))))) .nil .nil)
def o11 : Tr Plan := (.node 6 (.take 0 (.take 1 (.take 2 (.take 3 (.take 4 (.take 5 (.take 6 (.take 7 (.take 8 .stop))))))))) .nil .nil)
def o13 : Tr Plan := (.node 9 (.take 0 (.take 1 (.take 2 (.take 3 (.take 4 (.take 5 (.take 6 (.take 7 (.take 8 (.take 9 (.take 10 (.take 11 (.take 12 (.take 13 .stop)))))))))))))) .nil .nil)
def o20 : Tr Plan := (.node 16 (.take 0 (.take 1 (.take 2 (.take 3 (.take 4 (.take 5 .stop)))))) .nil .nil)
def o25 : Tr Plan := (.node 4 (.take 0 (.take 1 (.take 2 (.take 3 (.take 4 (.take 5 .stop)))))) .nil .nil)
def o35 : Tr Plan := (.node 3 (.take 0 (.take 1 (.take 2 (.take 3 (.take 4 (.take 5 (.take 6 (.take 7 (.take 8 (.take 9 .stop)))))))))) .nil .nil)
def o48 : Tr Plan := (.node 3 (.take 0 (.take 1 (.take 2 (.take 3 (.take 5 (.take 6 (.take 7 (.take 11 (.both 4 8 (.take 8 (.take 9 (.take 10 (.take 12 .stop)))) (.take 9 (.take 4 (.take 10 (.take 12 .stop))))))))))))) .nil .nil)
def o50 : Tr Plan := (.node 1 (.take 0 (.take 1 (.take 2 (.take 3 (.take 4 (.take 5 (.take 6 (.take 7 (.take 8 (.take 9 (.take 10 (.take 11 .stop)))))))))))) .nil .nil)
def o72 : Tr Plan := (.node 4 (.take 0 (.take 1 (.take 2 (.take 3 (.take 4 (.take 5 .stop)))))) .nil .nil)
def o75 : Tr Plan := (.node 6 (.take 0 (.take 1 (.take 2 (.take 5 (.take 6 (.take 3 (.take 4 (.take 7 (.take 8 (.take 9 (.take 10 .stop))))))))))) .nil .nil)
def o79 : Tr Plan := (.node 0 (.take 0 (.take 1 (.take 2 (.take 3 (.take 6 (.take 9 (.take 10 (.take 11 (.both 4 12 (.take 5 (.take 7 (.take 12 (.take 13 (.take 8 (.take 14 (.take 15 .stop))))))) (.take 13 (.take 4 (.take 5 (.take 7 (.take 8 (.take 14 (.take 15 .stop)))))))))))))))) .nil .nil)
def o81 : Tr Plan := (.node 10 (.take 0 (.take 1 (.take 2 (.take 3 (.take 4 (.take 5 (.take 6 .stop))))))) .nil .nil)
def o82 : Tr Plan := (.node 2 (.take 0 (.take 1 (.take 2 (.take 3 (.take 4 (.take 5 (.take 6 (.take 7 (.take 8 (.take 9 (.take 10 (.take 11 .stop)))))))))))) .nil .nil)
def o87 : Tr Plan := (.node 1 (.take 0 (.take 1 (.take 2 (.take 3 (.take 4 (.take 5 (.take 6 (.take 7 (.take 8 (.take 9 (.take 10 (.take 11 (.take 12 .stop))))))))))))) .nil .nil)
def o91 : Tr Plan := (.node 0 (.take 0 (.take 1 (.take 2 (.take 3 (.take 4 (.take 5 (.take 6 (.take 7 (.take 8 (.take 9 (.take 10 (.take 11 (.take 12 (.take 13 (.take 14 .stop))))))))))))))) .nil .nil)
def o92 : Tr Plan := (.node 13 (.take 0 (.take 1 (.take 2 (.take 3 (.take 4 (.take 5 (.take 6 (.take 7 (.take 8 (.take 9 (.take 10 (.take 11 (.take 12 (.take 13 (.take 14 (.take 15 (.take 16 (.take 17 .stop)))))))))))))))))) (.node 12 (.take 0 (.take 1 (.take 2 (.take 3 (.take 4 (.take 5 (.take 6 (.take 7 (.take 8 (.take 9 (.take 10 (.take 11 .stop)))))))))))) (.node 10 (.take 0 (.take 1 (.take 2 (.take 3 (.take 4 (.take 5 (.take 6 (.take 7 (.take 8 (.take 9 (.take 10 .stop))))))))))) .nil .nil) .nil) (.node 19 (.take 0 (.take 1 (.take 2 (.take 3 (.take 4 (.take 5 (.take 6 (.take 7 (.take 8 (.take 9 (.take 10 .stop))))))))))) .nil .nil))
def o93 : Tr Plan := (.node 5 (.take 0 (.take 1 (.take 2 (.take 3 (.take 4 (.take 5 (.take 6 (.take 7 (.take 8 (.take 9 (.take 10 (.take 11 (.take 12 (.take 13 .stop)))))))))))))) .nil .nil)
def o98 : Tr Plan := (.node 26 (.take 0 (.take 1 (.take 2 (.take 4 (.both 3 5 (.take 5 (.take 6 (.take 7 .stop))) (.take 3 (.take 6 (.take 7 .stop)))))))) .nil .nil)
def o104 : Tr Plan := (.node 3 (.take 0 (.take 1 (.take 2 (.take 3 (.take 4 (.take 5 (.take 6 (.take 7 .stop)))))))) .nil .nil)
def o113 : Tr Plan := (.node 5 (.take 0 (.take 1 (.take 2 (.take 3 (.take 6 (.take 7 (.take 8 (.take 9 (.take 10 (.take 11 (.take 12 (.take 4 (.take 5 (.take 13 (.take 14 .stop))))))))))))))) .nil .nil)
def o117 : Tr Plan := (.node 6 (.take 0 (.take 1 (.take 2 (.take 3 (.take 4 (.take 5 (.take 6 (.take 7 (.take 8 (.take 9 (.take 10 .stop))))))))))) .nil .nil)
def o121 : Tr Plan := (.node 15 (.take 0 (.take 1 (.take 2 (.take 3 (.take 4 (.take 5 (.take 6 (.take 7 (.take 8 (.take 9 (.take 10 .stop))))))))))) (.node 12 (.take 0 (.take 1 (.take 2 (.take 3 (.take 4 (.take 5 (.take 6 (.take 7 (.take 8 (.take 9 (.take 10 (.take 11 .stop)))))))))))) .nil .nil) .nil)
def o126 : Tr Plan := (.node 8 (.take 0 (.take 1 (.take 2 (.take 3 (.take 4 (.take 5 (.take 6 (.take 7 (.take 8 (.take 9 (.take 10 (.take 11 (.take 12 (.take 13 (.take 14 .stop))))))))))))))) .nil .nil)
def o128 : Tr Plan := (.node 2 (.take 0 (.take 1 (.take 2 (.take 3 (.take 4 (.take 5 (.take 6 (.take 7 (.take 8 (.take 9 (.take 10 .stop))))))))))) .nil .nil)
def o137 : Tr Plan := (.node 17 (.take 0 (.take 1 (.take 2 (.take 3 (.take 4 (.take 5 (.take 6 (.take 7 (.take 8 (.take 9 (.take 10 (.take 11 (.take 12 (.take 13 (.take 14 (.take 15 (.take 16 .stop))))))))))))))))) .nil .nil)
def o157 : Tr Plan := (.node 5 (.take 0 (.take 1 (.take 2 (.take 3 (.take 4 (.take 5 (.take 6 (.take 7 .stop)))))))) .nil .nil)
def o167 : Tr Plan := (.node 6 (.take 0 (.take 1 (.take 2 (.take 3 (.take 4 (.take 5 (.take 6 (.take 7 (.take 8 (.take 9 (.take 10 (.take 11 (.take 12 (.take 13 (.take 14 (.take 15 (.take 16 (.take 17 .stop)))))))))))))))))) (.node 4 (.take 0 (.take 1 (.take 2 (.take 3 (.take 4 (.take 5 (.take 6 (.take 7 (.take 8 (.take 9 (.take 10 (.take 11 (.take 12 (.take 13 (.take 14 (.take 15 (.take 16 .stop))))))))))))))))) .nil .nil) .nil)
def o168 : Tr Plan := (.node 10 (.take 0 (.take 1 (.take 2 (.take 3 (.take 4 (.take 5 (.take 6 (.take 7 (.take 8 (.take 9 (.take 10 (.take 11 (.take 12 (.take 13 (.take 14 (.take 15 (.take 16 (.take 17 (.take 18 (.take 19 .stop)))))))))))))))))))) .nil .nil)
def o169 : Tr Plan := (.node 10 (.take 0 (.take 1 (.take 2 (.take 3 (.take 4 (.take 5 (.take 6 (.take 7 (.take 8 (.take 9 (.take 10 (.take 11 (.take 12 (.take 13 (.take 14 (.take 15 (.take 16 (.take 17 (.take 18 (.take 19 .stop)))))))))))))))))))) .nil .nil)
def o171 : Tr Plan := (.node 3 (.take 0 (.take 1 (.take 2 (.take 3 (.take 4 (.take 5 (.take 6 (.take 7 (.take 8 (.take 9 (.take 10 (.take 11 (.take 12 (.take 13 (.take 14 (.take 15 .stop)))))))))))))))) .nil .nil)
def o172 : Tr Plan := (.node 17 (.take 0 (.take 1 (.take 2 (.take 3 (.take 4 (.take 5 (.take 6 (.take 7 (.take 8 (.take 9 (.take 10 (.take 11 (.take 12 (.take 13 (.take 14 (.take 15 (.take 16 (.take 17 .stop)))))))))))))))))) (.node 11 (.take 0 (.take 1 (.take 2 (.take 3 (.take 4 (.take 5 (.take 6 (.take 7 (.take 8 (.take 9 (.take 10 (.take 11 (.take 12 (.take 13 (.take 14 (.take 15 (.take 16 (.take 17 .stop)))))))))))))))))) (.node 5 (.take 0 (.take 1 (.take 2 (.take 3 (.take 4 (.take 5 (.take 6 (.take 7 (.take 8 (.take 9 (.take 10 (.take 11 (.take 12 (.take 13 (.take 14 (.take 15 (.take 16 (.take 17 .stop)))))))))))))))))) .nil .nil) (.node 16 (.take 0 (.take 1 (.take 2 (.take 3 (.take 4 (.take 5 (.take 6 (.take 7 (.take 8 (.take 9 (.take 10 (.take 11 (.take 12 .stop))))))))))))) .nil .nil)) (.node 23 (.take 0 (.take 1 (.take 2 (.take 3 (.take 4 (.take 5 (.take 6 (.take 7 (.take 8 (.take 9 (.take 10 (.take 11 (.take 12 (.take 13 (.take 14 (.take 15 (.take 16 (.take 17 .stop)))))))))))))))))) (.node 22 (.take 0 (.take 1 (.take 2 (.take 3 (.take 4 (.take 5 (.take 6 (.take 7 (.take 8 (.take 9 (.take 10 (.take 11 (.take 12 .stop))))))))))))) .nil .nil) .nil))
def o173 : Tr Plan := (.node 5 (.take 0 (.take 1 (.take 2 (.take 3 (.take 4 (.take 5 (.take 6 (.take 7 (.take 8 (.take 9 (.take 10 (.take 11 (.take 12 (.take 13 (.take 14 (.take 15 .stop)))))))))))))))) (.node 3 (.take 0 (.take 1 (.take 2 (.take 3 (.take 4 (.take 5 (.take 6 (.take 7 (.take 8 (.take 9 (.take 10 (.take 11 (.take 12 (.take 13 (.take 14 (.take 15 (.take 16 .stop))))))))))))))))) (.node 1 (.take 0 (.take 1 (.take 2 (.take 3 (.take 4 (.take 5 (.take 6 (.take 7 (.take 8 (.take 9 (.take 10 (.take 11 (.take 12 (.take 13 (.take 14 (.take 15 .stop)))))))))))))))) .nil .nil) .nil) (.node 8 (.take 0 (.take 1 (.take 2 (.take 3 (.take 4 (.take 5 (.take 6 (.take 7 (.take 8 (.take 9 (.take 10 (.take 11 (.take 12 (.take 13 (.take 14 (.take 15 .stop)))))))))))))))) .nil .nil))
def o174 : Tr Plan := (.node 10 (.take 0 (.take 1 (.take 2 (.take 3 (.take 4 (.take 5 (.take 6 (.take 7 (.take 8 (.take 9 (.take 10 (.take 11 (.take 12 (.take 13 (.take 14 (.take 15 .stop)))))))))))))))) (.node 5 (.take 0 (.take 1 (.take 2 (.take 3 (.take 4 (.take 5 (.take 6 (.take 7 (.take 8 (.take 9 (.take 10 (.take 11 (.take 12 (.take 13 (.take 14 (.take 15 (.take 16 .stop))))))))))))))))) (.node 3 (.take 0 (.take 1 (.take 2 (.take 3 (.take 4 (.take 5 (.take 6 (.take 7 (.take 8 (.take 9 (.take 10 (.take 11 (.take 12 (.take 13 (.take 14 (.take 15 .stop)))))))))))))))) (.node 1 (.take 0 (.take 1 (.take 2 (.take 3 (.take 4 (.take 5 (.take 6 (.take 7 (.take 8 (.take 9 (.take 10 (.take 11 (.take 12 (.take 13 (.take 14 (.take 15 .stop)))))))))))))))) .nil .nil) .nil) (.node 8 (.take 0 (.take 1 (.take 2 (.take 3 (.take 4 (.take 5 (.take 6 (.take 7 (.take 8 (.take 9 (.take 10 (.take 11 (.take 12 (.take 13 (.take 14 (.take 15 .stop)))))))))))))))) .nil .nil)) (.node 18 (.take 0 (.take 1 (.take 2 (.take 3 (.take 4 (.take 5 (.take 6 (.take 7 (.take 8 (.take 9 (.take 10 (.take 11 (.take 12 (.take 13 (.take 14 (.take 15 .stop)))))))))))))))) (.node 15 (.take 0 (.take 1 (.take 2 (.take 3 (.take 4 (.take 5 (.take 6 (.take 7 (.take 8 (.take 9 (.take 10 (.take 11 (.take 12 (.take 13 (.take 14 (.take 15 (.take 16 .stop))))))))))))))))) (.node 13 (.take 0 (.take 1 (.take 2 (.take 3 (.take 4 (.take 5 (.take 6 (.take 7 (.take 8 (.take 9 (.take 10 (.take 11 (.take 12 (.take 13 (.take 14 (.take 15 .stop)))))))))))))))) .nil .nil) .nil) (.node 21 (.take 0 (.take 1 (.take 2 (.take 3 (.take 4 (.take 5 (.take 6 (.take 7 (.take 8 (.take 9 (.take 10 (.take 11 (.take 12 (.take 13 (.take 14 (.take 15 .stop)))))))))))))))) .nil .nil)))
def o184 : Tr Plan := (.node 3 (.take 0 (.take 1 (.take 2 (.take 3 (.take 4 (.take 5 (.take 6 (.take 7 (.take 8 (.take 9 (.take 10 (.take 11 .stop)))))))))))) .nil .nil)
def o194 : Tr Plan := (.node 18 (.take 0 (.take 1 (.take 2 (.take 3 (.take 4 (.take 5 .stop)))))) .nil .nil)
def o203 : Tr Plan := (.node 5 (.take 0 (.take 1 (.take 2 (.take 3 (.take 4 (.take 5 (.take 6 (.take 7 (.take 8 (.take 9 (.take 10 (.take 11 (.take 12 (.take 13 (.take 14 (.take 15 .stop)))))))))))))))) (.node 3 (.take 0 (.take 1 (.take 2 (.take 3 (.take 4 (.take 5 (.take 6 (.take 7 (.take 8 (.take 9 (.take 10 (.take 11 (.take 12 (.take 13 (.take 14 (.take 15 (.take 16 (.take 17 (.take 18 (.take 19 (.take 20 (.take 21 .stop)))))))))))))))))))))) .nil .nil) (.node 6 (.take 0 (.take 1 (.take 2 (.take 3 (.take 4 (.take 5 (.take 6 (.take 7 (.take 8 (.take 9 (.take 10 (.take 11 (.take 12 (.take 13 (.take 14 (.take 15 (.take 16 (.take 17 (.take 18 (.take 19 (.take 20 (.take 21 (.take 22 (.take 23 .stop)))))))))))))))))))))))) .nil .nil))
def o205 : Tr Plan := (.node 2 (.take 0 (.take 1 (.take 2 (.take 3 (.take 4 (.take 5 (.take 6 (.take 7 (.take 8 (.take 9 .stop)))))))))) (.node 1 (.take 0 (.take 1 (.take 2 (.take 3 (.take 4 (.take 5 (.take 6 (.take 7 (.take 8 (.take 9 .stop)))))))))) .nil .nil) (.node 3 (.take 0 (.take 1 (.take 2 (.take 3 (.take 4 (.take 5 (.take 6 (.take 7 (.take 8 (.take 9 .stop)))))))))) .nil .nil))
def o216 : Tr Plan := (.node 5 (.take 0 (.take 1 (.take 2 (.take 5 (.take 6 (.take 7 (.take 8 (.take 3 (.take 4 (.take 9 (.take 10 (.take 11 .stop)))))))))))) .nil .nil)
def o221 : Tr Plan := (.node 3 (.take 0 (.take 1 (.take 2 (.take 3 (.take 4 (.take 5 (.take 6 (.take 7 (.take 8 (.take 9 (.take 10 (.take 11 (.take 12 (.take 13 (.take 14 (.take 15 .stop)))))))))))))))) .nil .nil)
def o228 : Tr Plan := (.node 4 (.take 0 (.take 2 (.take 3 (.take 1 (.take 4 (.take 5 .stop)))))) .nil .nil)
def o229 : Tr Plan := (.node 1 (.take 0 (.take 1 (.take 2 (.take 3 (.take 4 (.take 5 (.take 6 (.take 7 (.take 8 (.take 9 (.take 10 .stop))))))))))) .nil .nil)
def o237 : Tr Plan := (.node 4 (.take 0 (.take 1 (.take 2 (.take 3 (.take 4 (.take 7 (.take 8 (.take 9 (.take 10 (.take 11 (.both 5 12 (.take 6 (.take 12 (.take 13 (.take 14 (.take 15 .stop))))) (.take 5 (.take 6 (.take 13 (.take 14 (.take 15 .stop)))))))))))))))) .nil .nil)
def o261 : Tr Plan := (.node 11 (.take 0 (.take 1 (.take 2 (.take 3 (.take 4 (.take 5 (.take 6 (.take 7 (.take 8 (.take 9 .stop)))))))))) (.node 6 (.take 0 (.take 1 (.take 2 (.take 3 (.take 4 (.take 5 (.take 6 (.take 7 (.take 8 (.take 9 .stop)))))))))) .nil .nil) .nil)
def o267 : Tr Plan := (.node 17 (.take 0 (.take 1 (.take 2 (.take 3 (.take 4 (.take 5 (.take 6 (.take 7 (.take 8 (.take 9 (.take 10 (.take 11 (.take 12 (.take 13 (.take 14 .stop))))))))))))))) .nil .nil)
def o274 : Tr Plan := (.node 6 (.take 0 (.take 1 (.take 2 (.take 3 (.take 4 (.take 5 (.take 6 (.take 7 (.take 8 (.take 9 (.take 10 (.take 11 (.take 12 (.take 13 (.take 14 .stop))))))))))))))) (.node 4 (.take 0 (.take 1 (.take 2 (.take 3 (.take 4 (.take 5 (.take 6 (.take 7 (.take 8 (.take 9 .stop)))))))))) .nil .nil) .nil)
def o275 : Tr Plan := (.node 15 (.take 0 (.take 1 (.take 2 (.take 3 (.take 4 (.take 5 (.take 6 (.take 7 (.take 8 .stop))))))))) (.node 11 (.take 0 (.take 1 (.take 2 (.take 3 (.take 4 (.take 5 (.take 6 (.take 7 (.take 8 .stop))))))))) .nil .nil) .nil)
def o276 : Tr Plan := (.node 6 (.take 0 (.take 1 (.take 2 (.take 3 (.take 4 (.take 5 (.take 6 (.take 7 (.take 8 (.take 9 (.take 10 (.take 11 (.take 12 (.take 13 (.take 14 (.take 15 (.take 16 (.take 17 .stop)))))))))))))))))) (.node 4 (.take 0 (.take 1 (.take 2 (.take 3 (.take 4 (.take 5 (.take 6 (.take 7 (.take 8 (.take 9 (.take 10 (.take 11 (.take 12 (.take 13 (.take 14 .stop))))))))))))))) .nil .nil) .nil)
def o277 : Tr Plan := (.node 10 (.take 0 (.take 1 (.take 2 (.take 3 (.take 4 (.take 5 (.take 6 (.take 7 (.take 8 (.take 9 (.take 10 (.take 11 (.take 12 (.take 13 (.take 14 (.take 15 (.take 16 (.take 17 (.take 18 (.take 19 .stop)))))))))))))))))))) .nil .nil)
def o278 : Tr Plan := (.node 10 (.take 0 (.take 1 (.take 2 (.take 3 (.take 4 (.take 5 (.take 6 (.take 7 (.take 8 (.take 9 (.take 10 (.take 11 (.take 12 (.take 13 (.take 14 (.take 15 (.take 16 (.take 17 (.take 18 (.take 19 .stop)))))))))))))))))))) .nil .nil)
def o280 : Tr Plan := (.node 3 (.take 0 (.take 1 (.take 2 (.take 3 (.take 4 (.take 5 (.take 6 (.take 7 (.take 8 (.take 9 (.take 10 (.take 11 (.take 12 (.take 13 (.take 14 (.take 15 .stop)))))))))))))))) .nil .nil)
def o281 : Tr Plan := (.node 17 (.take 0 (.take 1 (.take 2 (.take 3 (.take 4 (.take 5 (.take 6 (.take 7 (.take 8 (.take 9 (.take 10 (.take 11 (.take 12 (.take 13 (.take 14 (.take 15 (.take 16 (.take 17 .stop)))))))))))))))))) (.node 11 (.take 0 (.take 1 (.take 2 (.take 3 (.take 4 (.take 5 (.take 6 (.take 7 (.take 8 (.take 9 (.take 10 (.take 11 (.take 12 (.take 13 (.take 14 (.take 15 (.take 16 (.take 17 .stop)))))))))))))))))) (.node 5 (.take 0 (.take 1 (.take 2 (.take 3 (.take 4 (.take 5 (.take 6 (.take 7 (.take 8 (.take 9 (.take 10 (.take 11 (.take 12 (.take 13 (.take 14 (.take 15 .stop)))))))))))))))) .nil .nil) (.node 16 (.take 0 (.take 1 (.take 2 (.take 3 (.take 4 (.take 5 (.take 6 (.take 7 (.take 8 (.take 9 (.take 10 .stop))))))))))) .nil .nil)) (.node 23 (.take 0 (.take 1 (.take 2 (.take 3 (.take 4 (.take 5 (.take 6 (.take 7 (.take 8 (.take 9 (.take 10 (.take 11 (.take 12 (.take 13 (.take 14 (.take 15 (.take 16 (.take 17 .stop)))))))))))))))))) (.node 22 (.take 0 (.take 1 (.take 2 (.take 3 (.take 4 (.take 5 (.take 6 (.take 7 (.take 8 (.take 9 (.take 10 .stop))))))))))) .nil .nil) .nil))
def o283 : Tr Plan := (.node 5 (.take 0 (.take 1 (.take 2 (.take 3 (.take 4 (.take 5 (.take 6 (.take 7 (.take 8 (.take 9 (.take 10 (.take 11 (.take 12 (.take 13 .stop)))))))))))))) (.node 3 (.take 0 (.take 1 (.take 2 (.take 3 (.take 4 (.take 5 (.take 6 (.take 7 (.take 8 (.take 9 (.take 10 (.take 11 (.take 12 (.take 13 (.take 14 .stop))))))))))))))) (.node 1 (.take 0 (.take 1 (.take 2 (.take 3 (.take 4 (.take 5 (.take 6 (.take 7 (.take 8 (.take 9 (.take 10 (.take 11 (.take 12 (.take 13 (.take 14 (.take 15 .stop)))))))))))))))) .nil .nil) .nil) (.node 8 (.take 0 (.take 1 (.take 2 (.take 3 (.take 4 (.take 5 (.take 6 (.take 7 (.take 8 (.take 9 (.take 10 (.take 11 (.take 12 (.take 13 (.take 14 (.take 15 .stop)))))))))))))))) .nil .nil))
def o284 : Tr Plan := (.node 10 (.take 0 (.take 1 (.take 2 (.take 3 (.take 4 (.take 5 (.take 6 (.take 7 (.take 8 (.take 9 (.take 10 (.take 11 (.take 12 (.take 13 (.take 14 (.take 15 .stop)))))))))))))))) (.node 5 (.take 0 (.take 1 (.take 2 (.take 3 (.take 4 (.take 5 (.take 6 (.take 7 (.take 8 (.take 9 (.take 10 (.take 11 (.take 12 (.take 13 (.take 14 .stop))))))))))))))) (.node 3 (.take 0 (.take 1 (.take 2 (.take 3 (.take 4 (.take 5 (.take 6 (.take 7 (.take 8 (.take 9 (.take 10 (.take 11 (.take 12 (.take 13 .stop)))))))))))))) (.node 1 (.take 0 (.take 1 (.take 2 (.take 3 (.take 4 (.take 5 (.take 6 (.take 7 (.take 8 (.take 9 (.take 10 (.take 11 (.take 12 (.take 13 (.take 14 (.take 15 .stop)))))))))))))))) .nil .nil) .nil) (.node 8 (.take 0 (.take 1 (.take 2 (.take 3 (.take 4 (.take 5 (.take 6 (.take 7 (.take 8 (.take 9 (.take 10 (.take 11 (.take 12 (.take 13 (.take 14 (.take 15 .stop)))))))))))))))) .nil .nil)) (.node 18 (.take 0 (.take 1 (.take 2 (.take 3 (.take 4 (.take 5 (.take 6 (.take 7 (.take 8 (.take 9 (.take 10 (.take 11 (.take 12 (.take 13 (.take 14 (.take 15 .stop)))))))))))))))) (.node 15 (.take 0 (.take 1 (.take 2 (.take 3 (.take 4 (.take 5 (.take 6 (.take 7 (.take 8 (.take 9 (.take 10 (.take 11 (.take 12 (.take 13 (.take 14 .stop))))))))))))))) (.node 13 (.take 0 (.take 1 (.take 2 (.take 3 (.take 4 (.take 5 (.take 6 (.take 7 (.take 8 (.take 9 (.take 10 (.take 11 (.take 12 (.take 13 .stop)))))))))))))) .nil .nil) .nil) (.node 21 (.take 0 (.take 1 (.take 2 (.take 3 (.take 4 (.take 5 (.take 6 (.take 7 (.take 8 (.take 9 (.take 10 (.take 11 (.take 12 (.take 13 (.take 14 (.take 15 .stop)))))))))))))))) .nil .nil)))
def o291 : Tr Plan := (.node 5 (.take 0 (.take 1 (.take 2 (.take 3 (.take 4 (.take 5 (.take 6 (.take 7 (.take 8 (.take 9 (.take 10 (.take 11 (.take 12 (.take 13 .stop)))))))))))))) (.node 3 (.take 0 (.take 1 (.take 2 (.take 3 (.take 4 (.take 5 (.take 6 (.take 7 (.take 8 (.take 9 (.take 10 (.take 11 (.take 12 (.take 13 (.take 14 (.take 15 (.take 16 (.take 17 (.take 18 (.take 19 .stop)))))))))))))))))))) .nil .nil) (.node 6 (.take 0 (.take 1 (.take 2 (.take 3 (.take 4 (.take 5 (.take 6 (.take 7 (.take 8 (.take 9 (.take 10 (.take 11 (.take 12 (.take 13 (.take 14 (.take 15 (.take 16 (.take 17 (.take 18 (.take 19 (.take 20 (.take 21 (.take 22 (.take 23 .stop)))))))))))))))))))))))) .nil .nil))
def o297 : Tr Plan := (.node 1 (.take 0 (.take 1 (.take 2 (.take 3 (.take 4 (.take 5 (.take 6 (.take 7 (.take 8 .stop))))))))) .nil .nil)
def o298 : Tr Plan := (.node 3 (.take 0 (.take 1 (.take 2 (.take 3 (.take 4 (.take 5 (.take 6 (.take 7 (.take 8 (.take 9 (.take 10 (.take 11 (.take 12 (.take 13 (.take 14 (.take 15 .stop)))))))))))))))) .nil .nil)
def mildT : Tr Unit := (.node 181 () (.node 102 () (.node 32 () (.node 15 () (.node 7 () (.node 3 () (.node 1 () (.node 0 () .nil .nil) (.node 2 () .nil .nil)) (.node 5 () (.node 4 () .nil .nil) (.node 6 () .nil .nil))) (.node 11 () (.node 9 () (.node 8 () .nil .nil) (.node 10 () .nil .nil)) (.node 13 () (.node 12 () .nil .nil) (.node 14 () .nil .nil)))) (.node 24 () (.node 19 () (.node 17 () (.node 16 () .nil .nil) (.node 18 () .nil .nil)) (.node 22 () (.node 20 () .nil .nil) (.node 23 () .nil .nil))) (.node 28 () (.node 26 () (.node 25 () .nil .nil) (.node 27 () .nil .nil)) (.node 30 () (.node 29 () .nil .nil) (.node 31 () .nil .nil))))) (.node 73 () (.node 47 () (.node 42 () (.node 35 () (.node 33 () .nil .nil) (.node 41 () .nil .nil)) (.node 44 () (.node 43 () .nil .nil) (.node 45 () .nil .nil))) (.node 58 () (.node 52 () (.node 51 () .nil .nil) (.node 53 () .nil .nil)) (.node 67 () (.node 59 () .nil .nil) (.node 72 () .nil .nil)))) (.node 85 () (.node 77 () (.node 75 () (.node 74 () .nil .nil) (.node 76 () .nil .nil)) (.node 81 () (.node 80 () .nil .nil) (.node 82 () .nil .nil))) (.node 99 () (.node 88 () (.node 86 () .nil .nil) (.node 98 () .nil .nil)) (.node 101 () (.node 100 () .nil .nil) .nil))))) (.node 142 () (.node 124 () (.node 113 () (.node 107 () (.node 104 () (.node 103 () .nil .nil) (.node 105 () .nil .nil)) (.node 109 () (.node 108 () .nil .nil) (.node 112 () .nil .nil))) (.node 119 () (.node 116 () (.node 114 () .nil .nil) (.node 117 () .nil .nil)) (.node 122 () (.node 120 () .nil .nil) (.node 123 () .nil .nil)))) (.node 134 () (.node 130 () (.node 127 () (.node 125 () .nil .nil) (.node 128 () .nil .nil)) (.node 132 () (.node 131 () .nil .nil) (.node 133 () .nil .nil))) (.node 139 () (.node 136 () (.node 135 () .nil .nil) (.node 138 () .nil .nil)) (.node 141 () (.node 140 () .nil .nil) .nil)))) (.node 158 () (.node 150 () (.node 146 () (.node 144 () (.node 143 () .nil .nil) (.node 145 () .nil .nil)) (.node 148 () (.node 147 () .nil .nil) (.node 149 () .nil .nil))) (.node 154 () (.node 152 () (.node 151 () .nil .nil) (.node 153 () .nil .nil)) (.node 156 () (.node 155 () .nil .nil) (.node 157 () .nil .nil)))) (.node 166 () (.node 162 () (.node 160 () (.node 159 () .nil .nil) (.node 161 () .nil .nil)) (.node 164 () (.node 163 () .nil .nil) (.node 165 () .nil .nil))) (.node 178 () (.node 176 () (.node 175 () .nil .nil) (.node 177 () .nil .nil)) (.node 180 () (.node 179 () .nil .nil) .nil)))))) (.node 253 () (.node 221 () (.node 199 () (.node 190 () (.node 186 () (.node 184 () (.node 182 () .nil .nil) (.node 185 () .nil .nil)) (.node 188 () (.node 187 () .nil .nil) (.node 189 () .nil .nil))) (.node 194 () (.node 192 () (.node 191 () .nil .nil) (.node 193 () .nil .nil)) (.node 197 () (.node 195 () .nil .nil) (.node 198 () .nil .nil)))) (.node 211 () (.node 204 () (.node 201 () (.node 200 () .nil .nil) (.node 202 () .nil .nil)) (.node 209 () (.node 208 () .nil .nil) (.node 210 () .nil .nil))) (.node 216 () (.node 214 () (.node 213 () .nil .nil) (.node 215 () .nil .nil)) (.node 218 () (.node 217 () .nil .nil) (.node 220 () .nil .nil))))) (.node 238 () (.node 230 () (.node 225 () (.node 223 () (.node 222 () .nil .nil) (.node 224 () .nil .nil)) (.node 227 () (.node 226 () .nil .nil) (.node 228 () .nil .nil))) (.node 234 () (.node 232 () (.node 231 () .nil .nil) (.node 233 () .nil .nil)) (.node 236 () (.node 235 () .nil .nil) (.node 237 () .nil .nil)))) (.node 246 () (.node 242 () (.node 240 () (.node 239 () .nil .nil) (.node 241 () .nil .nil)) (.node 244 () (.node 243 () .nil .nil) (.node 245 () .nil .nil))) (.node 250 () (.node 248 () (.node 247 () .nil .nil) (.node 249 () .nil .nil)) (.node 252 () (.node 251 () .nil .nil) .nil))))) (.node 287 () (.node 271 () (.node 263 () (.node 257 () (.node 255 () (.node 254 () .nil .nil) (.node 256 () .nil .nil)) (.node 260 () (.node 259 () .nil .nil) (.node 261 () .nil .nil))) (.node 267 () (.node 265 () (.node 264 () .nil .nil) (.node 266 () .nil .nil)) (.node 269 () (.node 268 () .nil .nil) (.node 270 () .nil .nil)))) (.node 280 () (.node 276 () (.node 273 () (.node 272 () .nil .nil) (.node 275 () .nil .nil)) (.node 278 () (.node 277 () .nil .nil) (.node 279 () .nil .nil))) (.node 284 () (.node 282 () (.node 281 () .nil .nil) (.node 283 () .nil .nil)) (.node 286 () (.node 285 () .nil .nil) .nil)))) (.node 306 () (.node 298 () (.node 291 () (.node 289 () (.node 288 () .nil .nil) (.node 290 () .nil .nil)) (.node 295 () (.node 294 () .nil .nil) (.node 296 () .nil .nil))) (.node 302 () (.node 300 () (.node 299 () .nil .nil) (.node 301 () .nil .nil)) (.node 304 () (.node 303 () .nil .nil) (.node 305 () .nil .nil)))) (.node 339 () (.node 319 () (.node 317 () (.node 316 () .nil .nil) (.node 318 () .nil .nil)) (.node 324 () (.node 322 () .nil .nil) (.node 338 () .nil .nil))) (.node 343 () (.node 341 () (.node 340 () .nil .nil) (.node 342 () .nil .nil)) (.node 345 () (.node 344 () .nil .nil) .nil)))))))
def ordT : Tr (Tr Plan) := (.node 168 o168 (.node 82 o82 (.node 35 o35 (.node 11 o11 (.node 5 o5 (.node 3 o3 .nil .nil) (.node 10 o10 .nil .nil)) (.node 20 o20 (.node 13 o13 .nil .nil) (.node 25 o25 .nil .nil))) (.node 75 o75 (.node 50 o50 (.node 48 o48 .nil .nil) (.node 72 o72 .nil .nil)) (.node 81 o81 (.node 79 o79 .nil .nil) .nil))) (.node 117 o117 (.node 93 o93 (.node 91 o91 (.node 87 o87 .nil .nil) (.node 92 o92 .nil .nil)) (.node 104 o104 (.node 98 o98 .nil .nil) (.node 113 o113 .nil .nil))) (.node 137 o137 (.node 126 o126 (.node 121 o121 .nil .nil) (.node 128 o128 .nil .nil)) (.node 167 o167 (.node 157 o157 .nil .nil) .nil)))) (.node 261 o261 (.node 203 o203 (.node 173 o173 (.node 171 o171 (.node 169 o169 .nil .nil) (.node 172 o172 .nil .nil)) (.node 184 o184 (.node 174 o174 .nil .nil) (.node 194 o194 .nil .nil))) (.node 228 o228 (.node 216 o216 (.node 205 o205 .nil .nil) (.node 221 o221 .nil .nil)) (.node 237 o237 (.node 229 o229 .nil .nil) .nil))) (.node 280 o280 (.node 276 o276 (.node 274 o274 (.node 267 o267 .nil .nil) (.node 275 o275 .nil .nil)) (.node 278 o278 (.node 277 o277 .nil .nil) .nil)) (.node 291 o291 (.node 283 o283 (.node 281 o281 .nil .nil) (.node 284 o284 .nil .nil)) (.node 298 o298 (.node 297 o297 .nil .nil) .nil)))))

theorem fn_ok : fnT.All fun f fn => Tryz.prog.funcs[f]? = some fn := ⟨(by kernel_rfl : Tryz.prog.funcs[154]? = some Tryz.f154), ⟨(by kernel_rfl : Tryz.prog.funcs[78]? = some Tryz.f78), ⟨(by kernel_rfl : Tryz.prog.funcs[38]? = some Tryz.f38), ⟨(by kernel_rfl : Tryz.prog.funcs[19]? = some Tryz.f19), ⟨(by kernel_rfl : Tryz.prog.funcs[10]? = some Tryz.f10), ⟨(by kernel_rfl : Tryz.prog.funcs[6]? = some Tryz.f6), ⟨(by kernel_rfl : Tryz.prog.funcs[4]? = some Tryz.f4), ⟨(by kernel_rfl : Tryz.prog.funcs[3]? = some Tryz.f3), ⟨(by kernel_rfl : Tryz.prog.funcs[2]? = some Tryz.f2), trivial, trivial⟩, trivial⟩, ⟨(by kernel_rfl : Tryz.prog.funcs[5]? = some Tryz.f5), trivial, trivial⟩⟩, ⟨(by kernel_rfl : Tryz.prog.funcs[8]? = some Tryz.f8), ⟨(by kernel_rfl : Tryz.prog.funcs[7]? = some Tryz.f7), trivial, trivial⟩, ⟨(by kernel_rfl : Tryz.prog.funcs[9]? = some Tryz.f9), trivial, trivial⟩⟩⟩, ⟨(by kernel_rfl : Tryz.prog.funcs[15]? = some Tryz.f15), ⟨(by kernel_rfl : Tryz.prog.funcs[13]? = some Tryz.f13), ⟨(by kernel_rfl : Tryz.prog.funcs[12]? = some Tryz.f12), ⟨(by kernel_rfl : Tryz.prog.funcs[11]? = some Tryz.f11), trivial, trivial⟩, trivial⟩, ⟨(by kernel_rfl : Tryz.prog.funcs[14]? = some Tryz.f14), trivial, trivial⟩⟩, ⟨(by kernel_rfl : Tryz.prog.funcs[17]? = some Tryz.f17), ⟨(by kernel_rfl : Tryz.prog.funcs[16]? = some Tryz.f16), trivial, trivial⟩, ⟨(by kernel_rfl : Tryz.prog.funcs[18]? = some Tryz.f18), trivial, trivial⟩⟩⟩⟩, ⟨(by kernel_rfl : Tryz.prog.funcs[28]? = some Tryz.f28), ⟨(by kernel_rfl : Tryz.prog.funcs[24]? = some Tryz.f24), ⟨(by kernel_rfl : Tryz.prog.funcs[22]? = some Tryz.f22), ⟨(by kernel_rfl : Tryz.prog.funcs[21]? = some Tryz.f21), ⟨(by kernel_rfl : Tryz.prog.funcs[20]? = some Tryz.f20), trivial, trivial⟩, trivial⟩, ⟨(by kernel_rfl : Tryz.prog.funcs[23]? = some Tryz.f23), trivial, trivial⟩⟩, ⟨(by kernel_rfl : Tryz.prog.funcs[26]? = some Tryz.f26), ⟨(by kernel_rfl : Tryz.prog.funcs[25]? = some Tryz.f25), trivial, trivial⟩, ⟨(by kernel_rfl : Tryz.prog.funcs[27]? = some Tryz.f27), trivial, trivial⟩⟩⟩, ⟨(by kernel_rfl : Tryz.prog.funcs[34]? = some Tryz.f34), ⟨(by kernel_rfl : Tryz.prog.funcs[31]? = some Tryz.f31), ⟨(by kernel_rfl : Tryz.prog.funcs[30]? = some Tryz.f30), ⟨(by kernel_rfl : Tryz.prog.funcs[29]? = some Tryz.f29), trivial, trivial⟩, trivial⟩, ⟨(by kernel_rfl : Tryz.prog.funcs[33]? = some Tryz.f33), trivial, trivial⟩⟩, ⟨(by kernel_rfl : Tryz.prog.funcs[36]? = some Tryz.f36), ⟨(by kernel_rfl : Tryz.prog.funcs[35]? = some Tryz.f35), trivial, trivial⟩, ⟨(by kernel_rfl : Tryz.prog.funcs[37]? = some Tryz.f37), trivial, trivial⟩⟩⟩⟩⟩, ⟨(by kernel_rfl : Tryz.prog.funcs[60]? = some Tryz.f60), ⟨(by kernel_rfl : Tryz.prog.funcs[48]? = some Tryz.f48), ⟨(by kernel_rfl : Tryz.prog.funcs[43]? = some Tryz.f43), ⟨(by kernel_rfl : Tryz.prog.funcs[41]? = some Tryz.f41), ⟨(by kernel_rfl : Tryz.prog.funcs[40]? = some Tryz.f40), ⟨(by kernel_rfl : Tryz.prog.funcs[39]? = some Tryz.f39), trivial, trivial⟩, trivial⟩, ⟨(by kernel_rfl : Tryz.prog.funcs[42]? = some Tryz.f42), trivial, trivial⟩⟩, ⟨(by kernel_rfl : Tryz.prog.funcs[45]? = some Tryz.f45), ⟨(by kernel_rfl : Tryz.prog.funcs[44]? = some Tryz.f44), trivial, trivial⟩, ⟨(by kernel_rfl : Tryz.prog.funcs[47]? = some Tryz.f47), trivial, trivial⟩⟩⟩, ⟨(by kernel_rfl : Tryz.prog.funcs[53]? = some Tryz.f53), ⟨(by kernel_rfl : Tryz.prog.funcs[51]? = some Tryz.f51), ⟨(by kernel_rfl : Tryz.prog.funcs[50]? = some Tryz.f50), ⟨(by kernel_rfl : Tryz.prog.funcs[49]? = some Tryz.f49), trivial, trivial⟩, trivial⟩, ⟨(by kernel_rfl : Tryz.prog.funcs[52]? = some Tryz.f52), trivial, trivial⟩⟩, ⟨(by kernel_rfl : Tryz.prog.funcs[58]? = some Tryz.f58), ⟨(by kernel_rfl : Tryz.prog.funcs[57]? = some Tryz.f57), trivial, trivial⟩, ⟨(by kernel_rfl : Tryz.prog.funcs[59]? = some Tryz.f59), trivial, trivial⟩⟩⟩⟩, ⟨(by kernel_rfl : Tryz.prog.funcs[69]? = some Tryz.f69), ⟨(by kernel_rfl : Tryz.prog.funcs[65]? = some Tryz.f65), ⟨(by kernel_rfl : Tryz.prog.funcs[63]? = some Tryz.f63), ⟨(by kernel_rfl : Tryz.prog.funcs[62]? = some Tryz.f62), ⟨(by kernel_rfl : Tryz.prog.funcs[61]? = some Tryz.f61), trivial, trivial⟩, trivial⟩, ⟨(by kernel_rfl : Tryz.prog.funcs[64]? = some Tryz.f64), trivial, trivial⟩⟩, ⟨(by kernel_rfl : Tryz.prog.funcs[67]? = some Tryz.f67), ⟨(by kernel_rfl : Tryz.prog.funcs[66]? = some Tryz.f66), trivial, trivial⟩, ⟨(by kernel_rfl : Tryz.prog.funcs[68]? = some Tryz.f68), trivial, trivial⟩⟩⟩, ⟨(by kernel_rfl : Tryz.prog.funcs[74]? = some Tryz.f74), ⟨(by kernel_rfl : Tryz.prog.funcs[72]? = some Tryz.f72), ⟨(by kernel_rfl : Tryz.prog.funcs[71]? = some Tryz.f71), ⟨(by kernel_rfl : Tryz.prog.funcs[70]? = some Tryz.f70), trivial, trivial⟩, trivial⟩, ⟨(by kernel_rfl : Tryz.prog.funcs[73]? = some Tryz.f73), trivial, trivial⟩⟩, ⟨(by kernel_rfl : Tryz.prog.funcs[76]? = some Tryz.f76), ⟨(by kernel_rfl : Tryz.prog.funcs[75]? = some Tryz.f75), trivial, trivial⟩, ⟨(by kernel_rfl : Tryz.prog.funcs[77]? = some Tryz.f77), trivial, trivial⟩⟩⟩⟩⟩⟩, ⟨(by kernel_rfl : Tryz.prog.funcs[118]? = some Tryz.f118), ⟨(by kernel_rfl : Tryz.prog.funcs[98]? = some Tryz.f98), ⟨(by kernel_rfl : Tryz.prog.funcs[89]? = some Tryz.f89), ⟨(by kernel_rfl : Tryz.prog.funcs[85]? = some Tryz.f85), ⟨(by kernel_rfl : Tryz.prog.funcs[81]? = some Tryz.f81), ⟨(by kernel_rfl : Tryz.prog.funcs[80]? = some Tryz.f80), ⟨(by kernel_rfl : Tryz.prog.funcs[79]? = some Tryz.f79), trivial, trivial⟩, trivial⟩, ⟨(by kernel_rfl : Tryz.prog.funcs[82]? = some Tryz.f82), trivial, trivial⟩⟩, ⟨(by kernel_rfl : Tryz.prog.funcs[87]? = some Tryz.f87), ⟨(by kernel_rfl : Tryz.prog.funcs[86]? = some Tryz.f86), trivial, trivial⟩, ⟨(by kernel_rfl : Tryz.prog.funcs[88]? = some Tryz.f88), trivial, trivial⟩⟩⟩, ⟨(by kernel_rfl : Tryz.prog.funcs[94]? = some Tryz.f94), ⟨(by kernel_rfl : Tryz.prog.funcs[92]? = some Tryz.f92), ⟨(by kernel_rfl : Tryz.prog.funcs[91]? = some Tryz.f91), ⟨(by kernel_rfl : Tryz.prog.funcs[90]? = some Tryz.f90), trivial, trivial⟩, trivial⟩, ⟨(by kernel_rfl : Tryz.prog.funcs[93]? = some Tryz.f93), trivial, trivial⟩⟩, ⟨(by kernel_rfl : Tryz.prog.funcs[96]? = some Tryz.f96), ⟨(by kernel_rfl : Tryz.prog.funcs[95]? = some Tryz.f95), trivial, trivial⟩, ⟨(by kernel_rfl : Tryz.prog.funcs[97]? = some Tryz.f97), trivial, trivial⟩⟩⟩⟩, ⟨(by kernel_rfl : Tryz.prog.funcs[107]? = some Tryz.f107), ⟨(by kernel_rfl : Tryz.prog.funcs[103]? = some Tryz.f103), ⟨(by kernel_rfl : Tryz.prog.funcs[101]? = some Tryz.f101), ⟨(by kernel_rfl : Tryz.prog.funcs[100]? = some Tryz.f100), ⟨(by kernel_rfl : Tryz.prog.funcs[99]? = some Tryz.f99), trivial, trivial⟩, trivial⟩, ⟨(by kernel_rfl : Tryz.prog.funcs[102]? = some Tryz.f102), trivial, trivial⟩⟩, ⟨(by kernel_rfl : Tryz.prog.funcs[105]? = some Tryz.f105), ⟨(by kernel_rfl : Tryz.prog.funcs[104]? = some Tryz.f104), trivial, trivial⟩, ⟨(by kernel_rfl : Tryz.prog.funcs[106]? = some Tryz.f106), trivial, trivial⟩⟩⟩, ⟨(by kernel_rfl : Tryz.prog.funcs[114]? = some Tryz.f114), ⟨(by kernel_rfl : Tryz.prog.funcs[110]? = some Tryz.f110), ⟨(by kernel_rfl : Tryz.prog.funcs[109]? = some Tryz.f109), ⟨(by kernel_rfl : Tryz.prog.funcs[108]? = some Tryz.f108), trivial, trivial⟩, trivial⟩, ⟨(by kernel_rfl : Tryz.prog.funcs[113]? = some Tryz.f113), trivial, trivial⟩⟩, ⟨(by kernel_rfl : Tryz.prog.funcs[116]? = some Tryz.f116), ⟨(by kernel_rfl : Tryz.prog.funcs[115]? = some Tryz.f115), trivial, trivial⟩, ⟨(by kernel_rfl : Tryz.prog.funcs[117]? = some Tryz.f117), trivial, trivial⟩⟩⟩⟩⟩, ⟨(by kernel_rfl : Tryz.prog.funcs[136]? = some Tryz.f136), ⟨(by kernel_rfl : Tryz.prog.funcs[127]? = some Tryz.f127), ⟨(by kernel_rfl : Tryz.prog.funcs[123]? = some Tryz.f123), ⟨(by kernel_rfl : Tryz.prog.funcs[121]? = some Tryz.f121), ⟨(by kernel_rfl : Tryz.prog.funcs[120]? = some Tryz.f120), ⟨(by kernel_rfl : Tryz.prog.funcs[119]? = some Tryz.f119), trivial, trivial⟩, trivial⟩, ⟨(by kernel_rfl : Tryz.prog.funcs[122]? = some Tryz.f122), trivial, trivial⟩⟩, ⟨(by kernel_rfl : Tryz.prog.funcs[125]? = some Tryz.f125), ⟨(by kernel_rfl : Tryz.prog.funcs[124]? = some Tryz.f124), trivial, trivial⟩, ⟨(by kernel_rfl : Tryz.prog.funcs[126]? = some Tryz.f126), trivial, trivial⟩⟩⟩, ⟨(by kernel_rfl : Tryz.prog.funcs[132]? = some Tryz.f132), ⟨(by kernel_rfl : Tryz.prog.funcs[130]? = some Tryz.f130), ⟨(by kernel_rfl : Tryz.prog.funcs[129]? = some Tryz.f129), ⟨(by kernel_rfl : Tryz.prog.funcs[128]? = some Tryz.f128), trivial, trivial⟩, trivial⟩, ⟨(by kernel_rfl : Tryz.prog.funcs[131]? = some Tryz.f131), trivial, trivial⟩⟩, ⟨(by kernel_rfl : Tryz.prog.funcs[134]? = some Tryz.f134), ⟨(by kernel_rfl : Tryz.prog.funcs[133]? = some Tryz.f133), trivial, trivial⟩, ⟨(by kernel_rfl : Tryz.prog.funcs[135]? = some Tryz.f135), trivial, trivial⟩⟩⟩⟩, ⟨(by kernel_rfl : Tryz.prog.funcs[146]? = some Tryz.f146), ⟨(by kernel_rfl : Tryz.prog.funcs[141]? = some Tryz.f141), ⟨(by kernel_rfl : Tryz.prog.funcs[139]? = some Tryz.f139), ⟨(by kernel_rfl : Tryz.prog.funcs[138]? = some Tryz.f138), ⟨(by kernel_rfl : Tryz.prog.funcs[137]? = some Tryz.f137), trivial, trivial⟩, trivial⟩, ⟨(by kernel_rfl : Tryz.prog.funcs[140]? = some Tryz.f140), trivial, trivial⟩⟩, ⟨(by kernel_rfl : Tryz.prog.funcs[143]? = some Tryz.f143), ⟨(by kernel_rfl : Tryz.prog.funcs[142]? = some Tryz.f142), trivial, trivial⟩, ⟨(by kernel_rfl : Tryz.prog.funcs[145]? = some Tryz.f145), trivial, trivial⟩⟩⟩, ⟨(by kernel_rfl : Tryz.prog.funcs[150]? = some Tryz.f150), ⟨(by kernel_rfl : Tryz.prog.funcs[148]? = some Tryz.f148), ⟨(by kernel_rfl : Tryz.prog.funcs[147]? = some Tryz.f147), trivial, trivial⟩, ⟨(by kernel_rfl : Tryz.prog.funcs[149]? = some Tryz.f149), trivial, trivial⟩⟩, ⟨(by kernel_rfl : Tryz.prog.funcs[152]? = some Tryz.f152), ⟨(by kernel_rfl : Tryz.prog.funcs[151]? = some Tryz.f151), trivial, trivial⟩, ⟨(by kernel_rfl : Tryz.prog.funcs[153]? = some Tryz.f153), trivial, trivial⟩⟩⟩⟩⟩⟩⟩, ⟨(by kernel_rfl : Tryz.prog.funcs[228]? = some Tryz.f228), ⟨(by kernel_rfl : Tryz.prog.funcs[191]? = some Tryz.f191), ⟨(by kernel_rfl : Tryz.prog.funcs[172]? = some Tryz.f172), ⟨(by kernel_rfl : Tryz.prog.funcs[163]? = some Tryz.f163), ⟨(by kernel_rfl : Tryz.prog.funcs[159]? = some Tryz.f159), ⟨(by kernel_rfl : Tryz.prog.funcs[157]? = some Tryz.f157), ⟨(by kernel_rfl : Tryz.prog.funcs[156]? = some Tryz.f156), ⟨(by kernel_rfl : Tryz.prog.funcs[155]? = some Tryz.f155), trivial, trivial⟩, trivial⟩, ⟨(by kernel_rfl : Tryz.prog.funcs[158]? = some Tryz.f158), trivial, trivial⟩⟩, ⟨(by kernel_rfl : Tryz.prog.funcs[161]? = some Tryz.f161), ⟨(by kernel_rfl : Tryz.prog.funcs[160]? = some Tryz.f160), trivial, trivial⟩, ⟨(by kernel_rfl : Tryz.prog.funcs[162]? = some Tryz.f162), trivial, trivial⟩⟩⟩, ⟨(by kernel_rfl : Tryz.prog.funcs[168]? = some Tryz.f168), ⟨(by kernel_rfl : Tryz.prog.funcs[166]? = some Tryz.f166), ⟨(by kernel_rfl : Tryz.prog.funcs[165]? = some Tryz.f165), ⟨(by kernel_rfl : Tryz.prog.funcs[164]? = some Tryz.f164), trivial, trivial⟩, trivial⟩, ⟨(by kernel_rfl : Tryz.prog.funcs[167]? = some Tryz.f167), trivial, trivial⟩⟩, ⟨(by kernel_rfl : Tryz.prog.funcs[170]? = some Tryz.f170), ⟨(by kernel_rfl : Tryz.prog.funcs[169]? = some Tryz.f169), trivial, trivial⟩, ⟨(by kernel_rfl : Tryz.prog.funcs[171]? = some Tryz.f171), trivial, trivial⟩⟩⟩⟩, ⟨(by kernel_rfl : Tryz.prog.funcs[182]? = some Tryz.f182), ⟨(by kernel_rfl : Tryz.prog.funcs[178]? = some Tryz.f178), ⟨(by kernel_rfl : Tryz.prog.funcs[175]? = some Tryz.f175), ⟨(by kernel_rfl : Tryz.prog.funcs[174]? = some Tryz.f174), ⟨(by kernel_rfl : Tryz.prog.funcs[173]? = some Tryz.f173), trivial, trivial⟩, trivial⟩, ⟨(by kernel_rfl : Tryz.prog.funcs[176]? = some Tryz.f176), trivial, trivial⟩⟩, ⟨(by kernel_rfl : Tryz.prog.funcs[180]? = some Tryz.f180), ⟨(by kernel_rfl : Tryz.prog.funcs[179]? = some Tryz.f179), trivial, trivial⟩, ⟨(by kernel_rfl : Tryz.prog.funcs[181]? = some Tryz.f181), trivial, trivial⟩⟩⟩, ⟨(by kernel_rfl : Tryz.prog.funcs[187]? = some Tryz.f187), ⟨(by kernel_rfl : Tryz.prog.funcs[185]? = some Tryz.f185), ⟨(by kernel_rfl : Tryz.prog.funcs[184]? = some Tryz.f184), ⟨(by kernel_rfl : Tryz.prog.funcs[183]? = some Tryz.f183), trivial, trivial⟩, trivial⟩, ⟨(by kernel_rfl : Tryz.prog.funcs[186]? = some Tryz.f186), trivial, trivial⟩⟩, ⟨(by kernel_rfl : Tryz.prog.funcs[189]? = some Tryz.f189), ⟨(by kernel_rfl : Tryz.prog.funcs[188]? = some Tryz.f188), trivial, trivial⟩, ⟨(by kernel_rfl : Tryz.prog.funcs[190]? = some Tryz.f190), trivial, trivial⟩⟩⟩⟩⟩, ⟨(by kernel_rfl : Tryz.prog.funcs[210]? = some Tryz.f210), ⟨(by kernel_rfl : Tryz.prog.funcs[200]? = some Tryz.f200), ⟨(by kernel_rfl : Tryz.prog.funcs[196]? = some Tryz.f196), ⟨(by kernel_rfl : Tryz.prog.funcs[194]? = some Tryz.f194), ⟨(by kernel_rfl : Tryz.prog.funcs[193]? = some Tryz.f193), ⟨(by kernel_rfl : Tryz.prog.funcs[192]? = some Tryz.f192), trivial, trivial⟩, trivial⟩, ⟨(by kernel_rfl : Tryz.prog.funcs[195]? = some Tryz.f195), trivial, trivial⟩⟩, ⟨(by kernel_rfl : Tryz.prog.funcs[198]? = some Tryz.f198), ⟨(by kernel_rfl : Tryz.prog.funcs[197]? = some Tryz.f197), trivial, trivial⟩, ⟨(by kernel_rfl : Tryz.prog.funcs[199]? = some Tryz.f199), trivial, trivial⟩⟩⟩, ⟨(by kernel_rfl : Tryz.prog.funcs[206]? = some Tryz.f206), ⟨(by kernel_rfl : Tryz.prog.funcs[204]? = some Tryz.f204), ⟨(by kernel_rfl : Tryz.prog.funcs[203]? = some Tryz.f203), ⟨(by kernel_rfl : Tryz.prog.funcs[201]? = some Tryz.f201), trivial, trivial⟩, trivial⟩, ⟨(by kernel_rfl : Tryz.prog.funcs[205]? = some Tryz.f205), trivial, trivial⟩⟩, ⟨(by kernel_rfl : Tryz.prog.funcs[208]? = some Tryz.f208), ⟨(by kernel_rfl : Tryz.prog.funcs[207]? = some Tryz.f207), trivial, trivial⟩, ⟨(by kernel_rfl : Tryz.prog.funcs[209]? = some Tryz.f209), trivial, trivial⟩⟩⟩⟩, ⟨(by kernel_rfl : Tryz.prog.funcs[219]? = some Tryz.f219), ⟨(by kernel_rfl : Tryz.prog.funcs[215]? = some Tryz.f215), ⟨(by kernel_rfl : Tryz.prog.funcs[213]? = some Tryz.f213), ⟨(by kernel_rfl : Tryz.prog.funcs[212]? = some Tryz.f212), ⟨(by kernel_rfl : Tryz.prog.funcs[211]? = some Tryz.f211), trivial, trivial⟩, trivial⟩, ⟨(by kernel_rfl : Tryz.prog.funcs[214]? = some Tryz.f214), trivial, trivial⟩⟩, ⟨(by kernel_rfl : Tryz.prog.funcs[217]? = some Tryz.f217), ⟨(by kernel_rfl : Tryz.prog.funcs[216]? = some Tryz.f216), trivial, trivial⟩, ⟨(by kernel_rfl : Tryz.prog.funcs[218]? = some Tryz.f218), trivial, trivial⟩⟩⟩, ⟨(by kernel_rfl : Tryz.prog.funcs[224]? = some Tryz.f224), ⟨(by kernel_rfl : Tryz.prog.funcs[222]? = some Tryz.f222), ⟨(by kernel_rfl : Tryz.prog.funcs[221]? = some Tryz.f221), ⟨(by kernel_rfl : Tryz.prog.funcs[220]? = some Tryz.f220), trivial, trivial⟩, trivial⟩, ⟨(by kernel_rfl : Tryz.prog.funcs[223]? = some Tryz.f223), trivial, trivial⟩⟩, ⟨(by kernel_rfl : Tryz.prog.funcs[226]? = some Tryz.f226), ⟨(by kernel_rfl : Tryz.prog.funcs[225]? = some Tryz.f225), trivial, trivial⟩, ⟨(by kernel_rfl : Tryz.prog.funcs[227]? = some Tryz.f227), trivial, trivial⟩⟩⟩⟩⟩⟩, ⟨(by kernel_rfl : Tryz.prog.funcs[265]? = some Tryz.f265), ⟨(by kernel_rfl : Tryz.prog.funcs[247]? = some Tryz.f247), ⟨(by kernel_rfl : Tryz.prog.funcs[238]? = some Tryz.f238), ⟨(by kernel_rfl : Tryz.prog.funcs[234]? = some Tryz.f234), ⟨(by kernel_rfl : Tryz.prog.funcs[232]? = some Tryz.f232), ⟨(by kernel_rfl : Tryz.prog.funcs[231]? = some Tryz.f231), ⟨(by kernel_rfl : Tryz.prog.funcs[229]? = some Tryz.f229), trivial, trivial⟩, trivial⟩, ⟨(by kernel_rfl : Tryz.prog.funcs[233]? = some Tryz.f233), trivial, trivial⟩⟩, ⟨(by kernel_rfl : Tryz.prog.funcs[236]? = some Tryz.f236), ⟨(by kernel_rfl : Tryz.prog.funcs[235]? = some Tryz.f235), trivial, trivial⟩, ⟨(by kernel_rfl : Tryz.prog.funcs[237]? = some Tryz.f237), trivial, trivial⟩⟩⟩, ⟨(by kernel_rfl : Tryz.prog.funcs[243]? = some Tryz.f243), ⟨(by kernel_rfl : Tryz.prog.funcs[241]? = some Tryz.f241), ⟨(by kernel_rfl : Tryz.prog.funcs[240]? = some Tryz.f240), ⟨(by kernel_rfl : Tryz.prog.funcs[239]? = some Tryz.f239), trivial, trivial⟩, trivial⟩, ⟨(by kernel_rfl : Tryz.prog.funcs[242]? = some Tryz.f242), trivial, trivial⟩⟩, ⟨(by kernel_rfl : Tryz.prog.funcs[245]? = some Tryz.f245), ⟨(by kernel_rfl : Tryz.prog.funcs[244]? = some Tryz.f244), trivial, trivial⟩, ⟨(by kernel_rfl : Tryz.prog.funcs[246]? = some Tryz.f246), trivial, trivial⟩⟩⟩⟩, ⟨(by kernel_rfl : Tryz.prog.funcs[256]? = some Tryz.f256), ⟨(by kernel_rfl : Tryz.prog.funcs[252]? = some Tryz.f252), ⟨(by kernel_rfl : Tryz.prog.funcs[250]? = some Tryz.f250), ⟨(by kernel_rfl : Tryz.prog.funcs[249]? = some Tryz.f249), ⟨(by kernel_rfl : Tryz.prog.funcs[248]? = some Tryz.f248), trivial, trivial⟩, trivial⟩, ⟨(by kernel_rfl : Tryz.prog.funcs[251]? = some Tryz.f251), trivial, trivial⟩⟩, ⟨(by kernel_rfl : Tryz.prog.funcs[254]? = some Tryz.f254), ⟨(by kernel_rfl : Tryz.prog.funcs[253]? = some Tryz.f253), trivial, trivial⟩, ⟨(by kernel_rfl : Tryz.prog.funcs[255]? = some Tryz.f255), trivial, trivial⟩⟩⟩, ⟨(by kernel_rfl : Tryz.prog.funcs[261]? = some Tryz.f261), ⟨(by kernel_rfl : Tryz.prog.funcs[259]? = some Tryz.f259), ⟨(by kernel_rfl : Tryz.prog.funcs[258]? = some Tryz.f258), ⟨(by kernel_rfl : Tryz.prog.funcs[257]? = some Tryz.f257), trivial, trivial⟩, trivial⟩, ⟨(by kernel_rfl : Tryz.prog.funcs[260]? = some Tryz.f260), trivial, trivial⟩⟩, ⟨(by kernel_rfl : Tryz.prog.funcs[263]? = some Tryz.f263), ⟨(by kernel_rfl : Tryz.prog.funcs[262]? = some Tryz.f262), trivial, trivial⟩, ⟨(by kernel_rfl : Tryz.prog.funcs[264]? = some Tryz.f264), trivial, trivial⟩⟩⟩⟩⟩, ⟨(by kernel_rfl : Tryz.prog.funcs[283]? = some Tryz.f283), ⟨(by kernel_rfl : Tryz.prog.funcs[274]? = some Tryz.f274), ⟨(by kernel_rfl : Tryz.prog.funcs[270]? = some Tryz.f270), ⟨(by kernel_rfl : Tryz.prog.funcs[268]? = some Tryz.f268), ⟨(by kernel_rfl : Tryz.prog.funcs[267]? = some Tryz.f267), ⟨(by kernel_rfl : Tryz.prog.funcs[266]? = some Tryz.f266), trivial, trivial⟩, trivial⟩, ⟨(by kernel_rfl : Tryz.prog.funcs[269]? = some Tryz.f269), trivial, trivial⟩⟩, ⟨(by kernel_rfl : Tryz.prog.funcs[272]? = some Tryz.f272), ⟨(by kernel_rfl : Tryz.prog.funcs[271]? = some Tryz.f271), trivial, trivial⟩, ⟨(by kernel_rfl : Tryz.prog.funcs[273]? = some Tryz.f273), trivial, trivial⟩⟩⟩, ⟨(by kernel_rfl : Tryz.prog.funcs[279]? = some Tryz.f279), ⟨(by kernel_rfl : Tryz.prog.funcs[277]? = some Tryz.f277), ⟨(by kernel_rfl : Tryz.prog.funcs[276]? = some Tryz.f276), ⟨(by kernel_rfl : Tryz.prog.funcs[275]? = some Tryz.f275), trivial, trivial⟩, trivial⟩, ⟨(by kernel_rfl : Tryz.prog.funcs[278]? = some Tryz.f278), trivial, trivial⟩⟩, ⟨(by kernel_rfl : Tryz.prog.funcs[281]? = some Tryz.f281), ⟨(by kernel_rfl : Tryz.prog.funcs[280]? = some Tryz.f280), trivial, trivial⟩, ⟨(by kernel_rfl : Tryz.prog.funcs[282]? = some Tryz.f282), trivial, trivial⟩⟩⟩⟩, ⟨(by kernel_rfl : Tryz.prog.funcs[294]? = some Tryz.f294), ⟨(by kernel_rfl : Tryz.prog.funcs[290]? = some Tryz.f290), ⟨(by kernel_rfl : Tryz.prog.funcs[286]? = some Tryz.f286), ⟨(by kernel_rfl : Tryz.prog.funcs[285]? = some Tryz.f285), ⟨(by kernel_rfl : Tryz.prog.funcs[284]? = some Tryz.f284), trivial, trivial⟩, trivial⟩, ⟨(by kernel_rfl : Tryz.prog.funcs[288]? = some Tryz.f288), trivial, trivial⟩⟩, ⟨(by kernel_rfl : Tryz.prog.funcs[292]? = some Tryz.f292), ⟨(by kernel_rfl : Tryz.prog.funcs[291]? = some Tryz.f291), trivial, trivial⟩, ⟨(by kernel_rfl : Tryz.prog.funcs[293]? = some Tryz.f293), trivial, trivial⟩⟩⟩, ⟨(by kernel_rfl : Tryz.prog.funcs[298]? = some Tryz.f298), ⟨(by kernel_rfl : Tryz.prog.funcs[296]? = some Tryz.f296), ⟨(by kernel_rfl : Tryz.prog.funcs[295]? = some Tryz.f295), trivial, trivial⟩, ⟨(by kernel_rfl : Tryz.prog.funcs[297]? = some Tryz.f297), trivial, trivial⟩⟩, ⟨(by kernel_rfl : Tryz.prog.funcs[319]? = some Tryz.f319), ⟨(by kernel_rfl : Tryz.prog.funcs[318]? = some Tryz.f318), trivial, trivial⟩, ⟨(by kernel_rfl : Tryz.prog.funcs[345]? = some Tryz.f345), trivial, trivial⟩⟩⟩⟩⟩⟩⟩⟩
theorem und_ok : undT.All fun t d => Tryz.prog.underlying t = some d := ⟨(by kernel_rfl : Tryz.prog.underlying 186 = some d186), ⟨(by kernel_rfl : Tryz.prog.underlying 93 = some d93), ⟨(by kernel_rfl : Tryz.prog.underlying 48 = some d48), ⟨(by kernel_rfl : Tryz.prog.underlying 26 = some d26), ⟨(by kernel_rfl : Tryz.prog.underlying 11 = some d11), ⟨(by kernel_rfl : Tryz.prog.underlying 5 = some d5), ⟨(by kernel_rfl : Tryz.prog.underlying 2 = some d2), ⟨(by kernel_rfl : Tryz.prog.underlying 1 = some d1), ⟨(by kernel_rfl : Tryz.prog.underlying 0 = some d0), trivial, trivial⟩, trivial⟩, ⟨(by kernel_rfl : Tryz.prog.underlying 4 = some d4), ⟨(by kernel_rfl : Tryz.prog.underlying 3 = some d3), trivial, trivial⟩, trivial⟩⟩, ⟨(by kernel_rfl : Tryz.prog.underlying 8 = some d8), ⟨(by kernel_rfl : Tryz.prog.underlying 7 = some d7), ⟨(by kernel_rfl : Tryz.prog.underlying 6 = some d6), trivial, trivial⟩, trivial⟩, ⟨(by kernel_rfl : Tryz.prog.underlying 10 = some d10), ⟨(by kernel_rfl : Tryz.prog.underlying 9 = some d9), trivial, trivial⟩, trivial⟩⟩⟩, ⟨(by kernel_rfl : Tryz.prog.underlying 21 = some d21), ⟨(by kernel_rfl : Tryz.prog.underlying 16 = some d16), ⟨(by kernel_rfl : Tryz.prog.underlying 15 = some d15), ⟨(by kernel_rfl : Tryz.prog.underlying 12 = some d12), trivial, trivial⟩, trivial⟩, ⟨(by kernel_rfl : Tryz.prog.underlying 20 = some d20), ⟨(by kernel_rfl : Tryz.prog.underlying 17 = some d17), trivial, trivial⟩, trivial⟩⟩, ⟨(by kernel_rfl : Tryz.prog.underlying 24 = some d24), ⟨(by kernel_rfl : Tryz.prog.underlying 23 = some d23), ⟨(by kernel_rfl : Tryz.prog.underlying 22 = some d22), trivial, trivial⟩, trivial⟩, ⟨(by kernel_rfl : Tryz.prog.underlying 25 = some d25), trivial, trivial⟩⟩⟩⟩, ⟨(by kernel_rfl : Tryz.prog.underlying 37 = some d37), ⟨(by kernel_rfl : Tryz.prog.underlying 32 = some d32), ⟨(by kernel_rfl : Tryz.prog.underlying 29 = some d29), ⟨(by kernel_rfl : Tryz.prog.underlying 28 = some d28), ⟨(by kernel_rfl : Tryz.prog.underlying 27 = some d27), trivial, trivial⟩, trivial⟩, ⟨(by kernel_rfl : Tryz.prog.underlying 31 = some d31), ⟨(by kernel_rfl : Tryz.prog.underlying 30 = some d30), trivial, trivial⟩, trivial⟩⟩, ⟨(by kernel_rfl : Tryz.prog.underlying 35 = some d35), ⟨(by kernel_rfl : Tryz.prog.underlying 34 = some d34), ⟨(by kernel_rfl : Tryz.prog.underlying 33 = some d33), trivial, trivial⟩, trivial⟩, ⟨(by kernel_rfl : Tryz.prog.underlying 36 = some d36), trivial, trivial⟩⟩⟩, ⟨(by kernel_rfl : Tryz.prog.underlying 43 = some d43), ⟨(by kernel_rfl : Tryz.prog.underlying 40 = some d40), ⟨(by kernel_rfl : Tryz.prog.underlying 39 = some d39), ⟨(by kernel_rfl : Tryz.prog.underlying 38 = some d38), trivial, trivial⟩, trivial⟩, ⟨(by kernel_rfl : Tryz.prog.underlying 42 = some d42), ⟨(by kernel_rfl : Tryz.prog.underlying 41 = some d41), trivial, trivial⟩, trivial⟩⟩, ⟨(by kernel_rfl : Tryz.prog.underlying 46 = some d46), ⟨(by kernel_rfl : Tryz.prog.underlying 45 = some d45), ⟨(by kernel_rfl : Tryz.prog.underlying 44 = some d44), trivial, trivial⟩, trivial⟩, ⟨(by kernel_rfl : Tryz.prog.underlying 47 = some d47), trivial, trivial⟩⟩⟩⟩⟩, ⟨(by kernel_rfl : Tryz.prog.underlying 71 = some d71), ⟨(by kernel_rfl : Tryz.prog.underlying 60 = some d60), ⟨(by kernel_rfl : Tryz.prog.underlying 54 = some d54), ⟨(by kernel_rfl : Tryz.prog.underlying 51 = some d51), ⟨(by kernel_rfl : Tryz.prog.underlying 50 = some d50), ⟨(by kernel_rfl : Tryz.prog.underlying 49 = some d49), trivial, trivial⟩, trivial⟩, ⟨(by kernel_rfl : Tryz.prog.underlying 53 = some d53), ⟨(by kernel_rfl : Tryz.prog.underlying 52 = some d52), trivial, trivial⟩, trivial⟩⟩, ⟨(by kernel_rfl : Tryz.prog.underlying 57 = some d57), ⟨(by kernel_rfl : Tryz.prog.underlying 56 = some d56), ⟨(by kernel_rfl : Tryz.prog.underlying 55 = some d55), trivial, trivial⟩, trivial⟩, ⟨(by kernel_rfl : Tryz.prog.underlying 59 = some d59), ⟨(by kernel_rfl : Tryz.prog.underlying 58 = some d58), trivial, trivial⟩, trivial⟩⟩⟩, ⟨(by kernel_rfl : Tryz.prog.underlying 66 = some d66), ⟨(by kernel_rfl : Tryz.prog.underlying 63 = some d63), ⟨(by kernel_rfl : Tryz.prog.underlying 62 = some d62), ⟨(by kernel_rfl : Tryz.prog.underlying 61 = some d61), trivial, trivial⟩, trivial⟩, ⟨(by kernel_rfl : Tryz.prog.underlying 65 = some d65), ⟨(by kernel_rfl : Tryz.prog.underlying 64 = some d64), trivial, trivial⟩, trivial⟩⟩, ⟨(by kernel_rfl : Tryz.prog.underlying 69 = some d69), ⟨(by kernel_rfl : Tryz.prog.underlying 68 = some d68), ⟨(by kernel_rfl : Tryz.prog.underlying 67 = some d67), trivial, trivial⟩, trivial⟩, ⟨(by kernel_rfl : Tryz.prog.underlying 70 = some d70), trivial, trivial⟩⟩⟩⟩, ⟨(by kernel_rfl : Tryz.prog.underlying 82 = some d82), ⟨(by kernel_rfl : Tryz.prog.underlying 77 = some d77), ⟨(by kernel_rfl : Tryz.prog.underlying 74 = some d74), ⟨(by kernel_rfl : Tryz.prog.underlying 73 = some d73), ⟨(by kernel_rfl : Tryz.prog.underlying 72 = some d72), trivial, trivial⟩, trivial⟩, ⟨(by kernel_rfl : Tryz.prog.underlying 76 = some d76), ⟨(by kernel_rfl : Tryz.prog.underlying 75 = some d75), trivial, trivial⟩, trivial⟩⟩, ⟨(by kernel_rfl : Tryz.prog.underlying 80 = some d80), ⟨(by kernel_rfl : Tryz.prog.underlying 79 = some d79), ⟨(by kernel_rfl : Tryz.prog.underlying 78 = some d78), trivial, trivial⟩, trivial⟩, ⟨(by kernel_rfl : Tryz.prog.underlying 81 = some d81), trivial, trivial⟩⟩⟩, ⟨(by kernel_rfl : Tryz.prog.underlying 88 = some d88), ⟨(by kernel_rfl : Tryz.prog.underlying 85 = some d85), ⟨(by kernel_rfl : Tryz.prog.underlying 84 = some d84), ⟨(by kernel_rfl : Tryz.prog.underlying 83 = some d83), trivial, trivial⟩, trivial⟩, ⟨(by kernel_rfl : Tryz.prog.underlying 87 = some d87), ⟨(by kernel_rfl : Tryz.prog.underlying 86 = some d86), trivial, trivial⟩, trivial⟩⟩, ⟨(by kernel_rfl : Tryz.prog.underlying 91 = some d91), ⟨(by kernel_rfl : Tryz.prog.underlying 90 = some d90), ⟨(by kernel_rfl : Tryz.prog.underlying 89 = some d89), trivial, trivial⟩, trivial⟩, ⟨(by kernel_rfl : Tryz.prog.underlying 92 = some d92), trivial, trivial⟩⟩⟩⟩⟩⟩, ⟨(by kernel_rfl : Tryz.prog.underlying 140 = some d140), ⟨(by kernel_rfl : Tryz.prog.underlying 118 = some d118), ⟨(by kernel_rfl : Tryz.prog.underlying 107 = some d107), ⟨(by kernel_rfl : Tryz.prog.underlying 99 = some d99), ⟨(by kernel_rfl : Tryz.prog.underlying 96 = some d96), ⟨(by kernel_rfl : Tryz.prog.underlying 95 = some d95), ⟨(by kernel_rfl : Tryz.prog.underlying 94 = some d94), trivial, trivial⟩, trivial⟩, ⟨(by kernel_rfl : Tryz.prog.underlying 98 = some d98), ⟨(by kernel_rfl : Tryz.prog.underlying 97 = some d97), trivial, trivial⟩, trivial⟩⟩, ⟨(by kernel_rfl : Tryz.prog.underlying 104 = some d104), ⟨(by kernel_rfl : Tryz.prog.underlying 103 = some d103), ⟨(by kernel_rfl : Tryz.prog.underlying 102 = some d102), trivial, trivial⟩, trivial⟩, ⟨(by kernel_rfl : Tryz.prog.underlying 106 = some d106), ⟨(by kernel_rfl : Tryz.prog.underlying 105 = some d105), trivial, trivial⟩, trivial⟩⟩⟩, ⟨(by kernel_rfl : Tryz.prog.underlying 113 = some d113), ⟨(by kernel_rfl : Tryz.prog.underlying 110 = some d110), ⟨(by kernel_rfl : Tryz.prog.underlying 109 = some d109), ⟨(by kernel_rfl : Tryz.prog.underlying 108 = some d108), trivial, trivial⟩, trivial⟩, ⟨(by kernel_rfl : Tryz.prog.underlying 112 = some d112), ⟨(by kernel_rfl : Tryz.prog.underlying 111 = some d111), trivial, trivial⟩, trivial⟩⟩, ⟨(by kernel_rfl : Tryz.prog.underlying 116 = some d116), ⟨(by kernel_rfl : Tryz.prog.underlying 115 = some d115), ⟨(by kernel_rfl : Tryz.prog.underlying 114 = some d114), trivial, trivial⟩, trivial⟩, ⟨(by kernel_rfl : Tryz.prog.underlying 117 = some d117), trivial, trivial⟩⟩⟩⟩, ⟨(by kernel_rfl : Tryz.prog.underlying 129 = some d129), ⟨(by kernel_rfl : Tryz.prog.underlying 124 = some d124), ⟨(by kernel_rfl : Tryz.prog.underlying 121 = some d121), ⟨(by kernel_rfl : Tryz.prog.underlying 120 = some d120), ⟨(by kernel_rfl : Tryz.prog.underlying 119 = some d119), trivial, trivial⟩, trivial⟩, ⟨(by kernel_rfl : Tryz.prog.underlying 123 = some d123), ⟨(by kernel_rfl : Tryz.prog.underlying 122 = some d122), trivial, trivial⟩, trivial⟩⟩, ⟨(by kernel_rfl : Tryz.prog.underlying 127 = some d127), ⟨(by kernel_rfl : Tryz.prog.underlying 126 = some d126), ⟨(by kernel_rfl : Tryz.prog.underlying 125 = some d125), trivial, trivial⟩, trivial⟩, ⟨(by kernel_rfl : Tryz.prog.underlying 128 = some d128), trivial, trivial⟩⟩⟩, ⟨(by kernel_rfl : Tryz.prog.underlying 135 = some d135), ⟨(by kernel_rfl : Tryz.prog.underlying 132 = some d132), ⟨(by kernel_rfl : Tryz.prog.underlying 131 = some d131), ⟨(by kernel_rfl : Tryz.prog.underlying 130 = some d130), trivial, trivial⟩, trivial⟩, ⟨(by kernel_rfl : Tryz.prog.underlying 134 = some d134), ⟨(by kernel_rfl : Tryz.prog.underlying 133 = some d133), trivial, trivial⟩, trivial⟩⟩, ⟨(by kernel_rfl : Tryz.prog.underlying 138 = some d138), ⟨(by kernel_rfl : Tryz.prog.underlying 137 = some d137), ⟨(by kernel_rfl : Tryz.prog.underlying 136 = some d136), trivial, trivial⟩, trivial⟩, ⟨(by kernel_rfl : Tryz.prog.underlying 139 = some d139), trivial, trivial⟩⟩⟩⟩⟩, ⟨(by kernel_rfl : Tryz.prog.underlying 164 = some d164), ⟨(by kernel_rfl : Tryz.prog.underlying 153 = some d153), ⟨(by kernel_rfl : Tryz.prog.underlying 146 = some d146), ⟨(by kernel_rfl : Tryz.prog.underlying 143 = some d143), ⟨(by kernel_rfl : Tryz.prog.underlying 142 = some d142), ⟨(by kernel_rfl : Tryz.prog.underlying 141 = some d141), trivial, trivial⟩, trivial⟩, ⟨(by kernel_rfl : Tryz.prog.underlying 145 = some d145), ⟨(by kernel_rfl : Tryz.prog.underlying 144 = some d144), trivial, trivial⟩, trivial⟩⟩, ⟨(by kernel_rfl : Tryz.prog.underlying 151 = some d151), ⟨(by kernel_rfl : Tryz.prog.underlying 150 = some d150), ⟨(by kernel_rfl : Tryz.prog.underlying 149 = some d149), trivial, trivial⟩, trivial⟩, ⟨(by kernel_rfl : Tryz.prog.underlying 152 = some d152), trivial, trivial⟩⟩⟩, ⟨(by kernel_rfl : Tryz.prog.underlying 159 = some d159), ⟨(by kernel_rfl : Tryz.prog.underlying 156 = some d156), ⟨(by kernel_rfl : Tryz.prog.underlying 155 = some d155), ⟨(by kernel_rfl : Tryz.prog.underlying 154 = some d154), trivial, trivial⟩, trivial⟩, ⟨(by kernel_rfl : Tryz.prog.underlying 158 = some d158), ⟨(by kernel_rfl : Tryz.prog.underlying 157 = some d157), trivial, trivial⟩, trivial⟩⟩, ⟨(by kernel_rfl : Tryz.prog.underlying 162 = some d162), ⟨(by kernel_rfl : Tryz.prog.underlying 161 = some d161), ⟨(by kernel_rfl : Tryz.prog.underlying 160 = some d160), trivial, trivial⟩, trivial⟩, ⟨(by kernel_rfl : Tryz.prog.underlying 163 = some d163), trivial, trivial⟩⟩⟩⟩, ⟨(by kernel_rfl : Tryz.prog.underlying 175 = some d175), ⟨(by kernel_rfl : Tryz.prog.underlying 170 = some d170), ⟨(by kernel_rfl : Tryz.prog.underlying 167 = some d167), ⟨(by kernel_rfl : Tryz.prog.underlying 166 = some d166), ⟨(by kernel_rfl : Tryz.prog.underlying 165 = some d165), trivial, trivial⟩, trivial⟩, ⟨(by kernel_rfl : Tryz.prog.underlying 169 = some d169), ⟨(by kernel_rfl : Tryz.prog.underlying 168 = some d168), trivial, trivial⟩, trivial⟩⟩, ⟨(by kernel_rfl : Tryz.prog.underlying 173 = some d173), ⟨(by kernel_rfl : Tryz.prog.underlying 172 = some d172), ⟨(by kernel_rfl : Tryz.prog.underlying 171 = some d171), trivial, trivial⟩, trivial⟩, ⟨(by kernel_rfl : Tryz.prog.underlying 174 = some d174), trivial, trivial⟩⟩⟩, ⟨(by kernel_rfl : Tryz.prog.underlying 181 = some d181), ⟨(by kernel_rfl : Tryz.prog.underlying 178 = some d178), ⟨(by kernel_rfl : Tryz.prog.underlying 177 = some d177), ⟨(by kernel_rfl : Tryz.prog.underlying 176 = some d176), trivial, trivial⟩, trivial⟩, ⟨(by kernel_rfl : Tryz.prog.underlying 180 = some d180), ⟨(by kernel_rfl : Tryz.prog.underlying 179 = some d179), trivial, trivial⟩, trivial⟩⟩, ⟨(by kernel_rfl : Tryz.prog.underlying 184 = some d184), ⟨(by kernel_rfl : Tryz.prog.underlying 183 = some d183), ⟨(by kernel_rfl : Tryz.prog.underlying 182 = some d182), trivial, trivial⟩, trivial⟩, ⟨(by kernel_rfl : Tryz.prog.underlying 185 = some d185), trivial, trivial⟩⟩⟩⟩⟩⟩⟩, ⟨(by kernel_rfl : Tryz.prog.underlying 276 = some d276), ⟨(by kernel_rfl : Tryz.prog.underlying 231 = some d231), ⟨(by kernel_rfl : Tryz.prog.underlying 209 = some d209), ⟨(by kernel_rfl : Tryz.prog.underlying 198 = some d198), ⟨(by kernel_rfl : Tryz.prog.underlying 192 = some d192), ⟨(by kernel_rfl : Tryz.prog.underlying 189 = some d189), ⟨(by kernel_rfl : Tryz.prog.underlying 188 = some d188), ⟨(by kernel_rfl : Tryz.prog.underlying 187 = some d187), trivial, trivial⟩, trivial⟩, ⟨(by kernel_rfl : Tryz.prog.underlying 191 = some d191), ⟨(by kernel_rfl : Tryz.prog.underlying 190 = some d190), trivial, trivial⟩, trivial⟩⟩, ⟨(by kernel_rfl : Tryz.prog.underlying 195 = some d195), ⟨(by kernel_rfl : Tryz.prog.underlying 194 = some d194), ⟨(by kernel_rfl : Tryz.prog.underlying 193 = some d193), trivial, trivial⟩, trivial⟩, ⟨(by kernel_rfl : Tryz.prog.underlying 197 = some d197), ⟨(by kernel_rfl : Tryz.prog.underlying 196 = some d196), trivial, trivial⟩, trivial⟩⟩⟩, ⟨(by kernel_rfl : Tryz.prog.underlying 204 = some d204), ⟨(by kernel_rfl : Tryz.prog.underlying 201 = some d201), ⟨(by kernel_rfl : Tryz.prog.underlying 200 = some d200), ⟨(by kernel_rfl : Tryz.prog.underlying 199 = some d199), trivial, trivial⟩, trivial⟩, ⟨(by kernel_rfl : Tryz.prog.underlying 203 = some d203), ⟨(by kernel_rfl : Tryz.prog.underlying 202 = some d202), trivial, trivial⟩, trivial⟩⟩, ⟨(by kernel_rfl : Tryz.prog.underlying 207 = some d207), ⟨(by kernel_rfl : Tryz.prog.underlying 206 = some d206), ⟨(by kernel_rfl : Tryz.prog.underlying 205 = some d205), trivial, trivial⟩, trivial⟩, ⟨(by kernel_rfl : Tryz.prog.underlying 208 = some d208), trivial, trivial⟩⟩⟩⟩, ⟨(by kernel_rfl : Tryz.prog.underlying 220 = some d220), ⟨(by kernel_rfl : Tryz.prog.underlying 215 = some d215), ⟨(by kernel_rfl : Tryz.prog.underlying 212 = some d212), ⟨(by kernel_rfl : Tryz.prog.underlying 211 = some d211), ⟨(by kernel_rfl : Tryz.prog.underlying 210 = some d210), trivial, trivial⟩, trivial⟩, ⟨(by kernel_rfl : Tryz.prog.underlying 214 = some d214), ⟨(by kernel_rfl : Tryz.prog.underlying 213 = some d213), trivial, trivial⟩, trivial⟩⟩, ⟨(by kernel_rfl : Tryz.prog.underlying 218 = some d218), ⟨(by kernel_rfl : Tryz.prog.underlying 217 = some d217), ⟨(by kernel_rfl : Tryz.prog.underlying 216 = some d216), trivial, trivial⟩, trivial⟩, ⟨(by kernel_rfl : Tryz.prog.underlying 219 = some d219), trivial, trivial⟩⟩⟩, ⟨(by kernel_rfl : Tryz.prog.underlying 226 = some d226), ⟨(by kernel_rfl : Tryz.prog.underlying 223 = some d223), ⟨(by kernel_rfl : Tryz.prog.underlying 222 = some d222), ⟨(by kernel_rfl : Tryz.prog.underlying 221 = some d221), trivial, trivial⟩, trivial⟩, ⟨(by kernel_rfl : Tryz.prog.underlying 225 = some d225), ⟨(by kernel_rfl : Tryz.prog.underlying 224 = some d224), trivial, trivial⟩, trivial⟩⟩, ⟨(by kernel_rfl : Tryz.prog.underlying 229 = some d229), ⟨(by kernel_rfl : Tryz.prog.underlying 228 = some d228), ⟨(by kernel_rfl : Tryz.prog.underlying 227 = some d227), trivial, trivial⟩, trivial⟩, ⟨(by kernel_rfl : Tryz.prog.underlying 230 = some d230), trivial, trivial⟩⟩⟩⟩⟩, ⟨(by kernel_rfl : Tryz.prog.underlying 254 = some d254), ⟨(by kernel_rfl : Tryz.prog.underlying 243 = some d243), ⟨(by kernel_rfl : Tryz.prog.underlying 237 = some d237), ⟨(by kernel_rfl : Tryz.prog.underlying 234 = some d234), ⟨(by kernel_rfl : Tryz.prog.underlying 233 = some d233), ⟨(by kernel_rfl : Tryz.prog.underlying 232 = some d232), trivial, trivial⟩, trivial⟩, ⟨(by kernel_rfl : Tryz.prog.underlying 236 = some d236), ⟨(by kernel_rfl : Tryz.prog.underlying 235 = some d235), trivial, trivial⟩, trivial⟩⟩, ⟨(by kernel_rfl : Tryz.prog.underlying 240 = some d240), ⟨(by kernel_rfl : Tryz.prog.underlying 239 = some d239), ⟨(by kernel_rfl : Tryz.prog.underlying 238 = some d238), trivial, trivial⟩, trivial⟩, ⟨(by kernel_rfl : Tryz.prog.underlying 242 = some d242), ⟨(by kernel_rfl : Tryz.prog.underlying 241 = some d241), trivial, trivial⟩, trivial⟩⟩⟩, ⟨(by kernel_rfl : Tryz.prog.underlying 249 = some d249), ⟨(by kernel_rfl : Tryz.prog.underlying 246 = some d246), ⟨(by kernel_rfl : Tryz.prog.underlying 245 = some d245), ⟨(by kernel_rfl : Tryz.prog.underlying 244 = some d244), trivial, trivial⟩, trivial⟩, ⟨(by kernel_rfl : Tryz.prog.underlying 248 = some d248), ⟨(by kernel_rfl : Tryz.prog.underlying 247 = some d247), trivial, trivial⟩, trivial⟩⟩, ⟨(by kernel_rfl : Tryz.prog.underlying 252 = some d252), ⟨(by kernel_rfl : Tryz.prog.underlying 251 = some d251), ⟨(by kernel_rfl : Tryz.prog.underlying 250 = some d250), trivial, trivial⟩, trivial⟩, ⟨(by kernel_rfl : Tryz.prog.underlying 253 = some d253), trivial, trivial⟩⟩⟩⟩, ⟨(by kernel_rfl : Tryz.prog.underlying 265 = some d265), ⟨(by kernel_rfl : Tryz.prog.underlying 260 = some d260), ⟨(by kernel_rfl : Tryz.prog.underlying 257 = some d257), ⟨(by kernel_rfl : Tryz.prog.underlying 256 = some d256), ⟨(by kernel_rfl : Tryz.prog.underlying 255 = some d255), trivial, trivial⟩, trivial⟩, ⟨(by kernel_rfl : Tryz.prog.underlying 259 = some d259), ⟨(by kernel_rfl : Tryz.prog.underlying 258 = some d258), trivial, trivial⟩, trivial⟩⟩, ⟨(by kernel_rfl : Tryz.prog.underlying 263 = some d263), ⟨(by kernel_rfl : Tryz.prog.underlying 262 = some d262), ⟨(by kernel_rfl : Tryz.prog.underlying 261 = some d261), trivial, trivial⟩, trivial⟩, ⟨(by kernel_rfl : Tryz.prog.underlying 264 = some d264), trivial, trivial⟩⟩⟩, ⟨(by kernel_rfl : Tryz.prog.underlying 271 = some d271), ⟨(by kernel_rfl : Tryz.prog.underlying 268 = some d268), ⟨(by kernel_rfl : Tryz.prog.underlying 267 = some d267), ⟨(by kernel_rfl : Tryz.prog.underlying 266 = some d266), trivial, trivial⟩, trivial⟩, ⟨(by kernel_rfl : Tryz.prog.underlying 270 = some d270), ⟨(by kernel_rfl : Tryz.prog.underlying 269 = some d269), trivial, trivial⟩, trivial⟩⟩, ⟨(by kernel_rfl : Tryz.prog.underlying 274 = some d274), ⟨(by kernel_rfl : Tryz.prog.underlying 273 = some d273), ⟨(by kernel_rfl : Tryz.prog.underlying 272 = some d272), trivial, trivial⟩, trivial⟩, ⟨(by kernel_rfl : Tryz.prog.underlying 275 = some d275), trivial, trivial⟩⟩⟩⟩⟩⟩, ⟨(by kernel_rfl : Tryz.prog.underlying 321 = some d321), ⟨(by kernel_rfl : Tryz.prog.underlying 299 = some d299), ⟨(by kernel_rfl : Tryz.prog.underlying 288 = some d288), ⟨(by kernel_rfl : Tryz.prog.underlying 282 = some d282), ⟨(by kernel_rfl : Tryz.prog.underlying 279 = some d279), ⟨(by kernel_rfl : Tryz.prog.underlying 278 = some d278), ⟨(by kernel_rfl : Tryz.prog.underlying 277 = some d277), trivial, trivial⟩, trivial⟩, ⟨(by kernel_rfl : Tryz.prog.underlying 281 = some d281), ⟨(by kernel_rfl : Tryz.prog.underlying 280 = some d280), trivial, trivial⟩, trivial⟩⟩, ⟨(by kernel_rfl : Tryz.prog.underlying 285 = some d285), ⟨(by kernel_rfl : Tryz.prog.underlying 284 = some d284), ⟨(by kernel_rfl : Tryz.prog.underlying 283 = some d283), trivial, trivial⟩, trivial⟩, ⟨(by kernel_rfl : Tryz.prog.underlying 287 = some d287), ⟨(by kernel_rfl : Tryz.prog.underlying 286 = some d286), trivial, trivial⟩, trivial⟩⟩⟩, ⟨(by kernel_rfl : Tryz.prog.underlying 294 = some d294), ⟨(by kernel_rfl : Tryz.prog.underlying 291 = some d291), ⟨(by kernel_rfl : Tryz.prog.underlying 290 = some d290), ⟨(by kernel_rfl : Tryz.prog.underlying 289 = some d289), trivial, trivial⟩, trivial⟩, ⟨(by kernel_rfl : Tryz.prog.underlying 293 = some d293), ⟨(by kernel_rfl : Tryz.prog.underlying 292 = some d292), trivial, trivial⟩, trivial⟩⟩, ⟨(by kernel_rfl : Tryz.prog.underlying 297 = some d297), ⟨(by kernel_rfl : Tryz.prog.underlying 296 = some d296), ⟨(by kernel_rfl : Tryz.prog.underlying 295 = some d295), trivial, trivial⟩, trivial⟩, ⟨(by kernel_rfl : Tryz.prog.underlying 298 = some d298), trivial, trivial⟩⟩⟩⟩, ⟨(by kernel_rfl : Tryz.prog.underlying 310 = some d310), ⟨(by kernel_rfl : Tryz.prog.underlying 305 = some d305), ⟨(by kernel_rfl : Tryz.prog.underlying 302 = some d302), ⟨(by kernel_rfl : Tryz.prog.underlying 301 = some d301), ⟨(by kernel_rfl : Tryz.prog.underlying 300 = some d300), trivial, trivial⟩, trivial⟩, ⟨(by kernel_rfl : Tryz.prog.underlying 304 = some d304), ⟨(by kernel_rfl : Tryz.prog.underlying 303 = some d303), trivial, trivial⟩, trivial⟩⟩, ⟨(by kernel_rfl : Tryz.prog.underlying 308 = some d308), ⟨(by kernel_rfl : Tryz.prog.underlying 307 = some d307), ⟨(by kernel_rfl : Tryz.prog.underlying 306 = some d306), trivial, trivial⟩, trivial⟩, ⟨(by kernel_rfl : Tryz.prog.underlying 309 = some d309), trivial, trivial⟩⟩⟩, ⟨(by kernel_rfl : Tryz.prog.underlying 316 = some d316), ⟨(by kernel_rfl : Tryz.prog.underlying 313 = some d313), ⟨(by kernel_rfl : Tryz.prog.underlying 312 = some d312), ⟨(by kernel_rfl : Tryz.prog.underlying 311 = some d311), trivial, trivial⟩, trivial⟩, ⟨(by kernel_rfl : Tryz.prog.underlying 315 = some d315), ⟨(by kernel_rfl : Tryz.prog.underlying 314 = some d314), trivial, trivial⟩, trivial⟩⟩, ⟨(by kernel_rfl : Tryz.prog.underlying 319 = some d319), ⟨(by kernel_rfl : Tryz.prog.underlying 318 = some d318), ⟨(by kernel_rfl : Tryz.prog.underlying 317 = some d317), trivial, trivial⟩, trivial⟩, ⟨(by kernel_rfl : Tryz.prog.underlying 320 = some d320), trivial, trivial⟩⟩⟩⟩⟩, ⟨(by kernel_rfl : Tryz.prog.underlying 343 = some d343), ⟨(by kernel_rfl : Tryz.prog.underlying 332 = some d332), ⟨(by kernel_rfl : Tryz.prog.underlying 327 = some d327), ⟨(by kernel_rfl : Tryz.prog.underlying 324 = some d324), ⟨(by kernel_rfl : Tryz.prog.underlying 323 = some d323), ⟨(by kernel_rfl : Tryz.prog.underlying 322 = some d322), trivial, trivial⟩, trivial⟩, ⟨(by kernel_rfl : Tryz.prog.underlying 326 = some d326), ⟨(by kernel_rfl : Tryz.prog.underlying 325 = some d325), trivial, trivial⟩, trivial⟩⟩, ⟨(by kernel_rfl : Tryz.prog.underlying 330 = some d330), ⟨(by kernel_rfl : Tryz.prog.underlying 329 = some d329), ⟨(by kernel_rfl : Tryz.prog.underlying 328 = some d328), trivial, trivial⟩, trivial⟩, ⟨(by kernel_rfl : Tryz.prog.underlying 331 = some d331), trivial, trivial⟩⟩⟩, ⟨(by kernel_rfl : Tryz.prog.underlying 338 = some d338), ⟨(by kernel_rfl : Tryz.prog.underlying 335 = some d335), ⟨(by kernel_rfl : Tryz.prog.underlying 334 = some d334), ⟨(by kernel_rfl : Tryz.prog.underlying 333 = some d333), trivial, trivial⟩, trivial⟩, ⟨(by kernel_rfl : Tryz.prog.underlying 337 = some d337), ⟨(by kernel_rfl : Tryz.prog.underlying 336 = some d336), trivial, trivial⟩, trivial⟩⟩, ⟨(by kernel_rfl : Tryz.prog.underlying 341 = some d341), ⟨(by kernel_rfl : Tryz.prog.underlying 340 = some d340), ⟨(by kernel_rfl : Tryz.prog.underlying 339 = some d339), trivial, trivial⟩, trivial⟩, ⟨(by kernel_rfl : Tryz.prog.underlying 342 = some d342), trivial, trivial⟩⟩⟩⟩, ⟨(by kernel_rfl : Tryz.prog.underlying 358 = some d358), ⟨(by kernel_rfl : Tryz.prog.underlying 349 = some d349), ⟨(by kernel_rfl : Tryz.prog.underlying 346 = some d346), ⟨(by kernel_rfl : Tryz.prog.underlying 345 = some d345), ⟨(by kernel_rfl : Tryz.prog.underlying 344 = some d344), trivial, trivial⟩, trivial⟩, ⟨(by kernel_rfl : Tryz.prog.underlying 348 = some d348), ⟨(by kernel_rfl : Tryz.prog.underlying 347 = some d347), trivial, trivial⟩, trivial⟩⟩, ⟨(by kernel_rfl : Tryz.prog.underlying 356 = some d356), ⟨(by kernel_rfl : Tryz.prog.underlying 353 = some d353), ⟨(by kernel_rfl : Tryz.prog.underlying 350 = some d350), trivial, trivial⟩, trivial⟩, ⟨(by kernel_rfl : Tryz.prog.underlying 357 = some d357), trivial, trivial⟩⟩⟩, ⟨(by kernel_rfl : Tryz.prog.underlying 368 = some d368), ⟨(by kernel_rfl : Tryz.prog.underlying 363 = some d363), ⟨(by kernel_rfl : Tryz.prog.underlying 360 = some d360), ⟨(by kernel_rfl : Tryz.prog.underlying 359 = some d359), trivial, trivial⟩, trivial⟩, ⟨(by kernel_rfl : Tryz.prog.underlying 365 = some d365), ⟨(by kernel_rfl : Tryz.prog.underlying 364 = some d364), trivial, trivial⟩, trivial⟩⟩, ⟨(by kernel_rfl : Tryz.prog.underlying 373 = some d373), ⟨(by kernel_rfl : Tryz.prog.underlying 372 = some d372), ⟨(by kernel_rfl : Tryz.prog.underlying 369 = some d369), trivial, trivial⟩, trivial⟩, ⟨(by kernel_rfl : Tryz.prog.underlying 376 = some d376), trivial, trivial⟩⟩⟩⟩⟩⟩⟩⟩
theorem siz_ok : sizT.allB (sizB Tryz.prog) = true := by kernel_rfl
theorem zero_ok : zeroT.allB (zeroB Tryz.prog) = true := by kernel_rfl
theorem eq_ok : eqT.allB (fun t _ => !Tryz.prog.eqGuardType Tryz.prog.depth t) = true := by kernel_rfl
theorem stood_ok : undT.allB (stoodB Tryz.prog) = true := by kernel_rfl

end MI.Tryz

